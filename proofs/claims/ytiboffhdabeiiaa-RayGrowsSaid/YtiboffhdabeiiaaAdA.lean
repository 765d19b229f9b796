/-
  adj: whole, rows; by symbolic steps.
-/
import Derived.Test.YtiboffhdabeiiaaAdP
import Derived.Test.YtiboffhdabeiiaaSqF
namespace Go.Proofs.Ytiboffhdabeiiaa
open Go Go.RowKit
theorem whole_s (s : List Int) (l : List PArc) (a : PArc) : Spec Try.prog 154 [vI s l, arcS a] (hI s l) (bv (wholeB s.length a)) [] := by
  by_cases h1 : 0 ≤ a.fr
  · by_cases h2 : a.fr < s.length
    · by_cases h3 : 0 ≤ a.dt
      · have e : wholeB s.length a = decide (a.dt < s.length) := by simp [wholeB, h1, h2, h3]
        rw [e]
        refine Spec.mk [] Try.call154 Try.func154 Try.ntmps154 Try.results154 rfl (by kernel_rfl) (by kernel_rfl) ?_
        (repeat (first | apply TL.seq | ((first | apply TL.pl | apply TL.dr _ (by kernel_rfl)); (repeat (first | (apply RX.kN; refine RX.x OpA rfl ?_) | (apply RX.kG; first | refine RX.y rfl rfl rfl GdA OpA ?_ | refine RX.n rfl rfl rfl GdA rfl rfl ?_ | refine RX.nU rfl rfl rfl rfl rfl ?_ | refine RX.nS rfl rfl rfl GdA rfl ?_))); (try apply RX.nil _ (by kernel_rfl))) | (apply TL.kC; first | refine TL.condT rfl DecT ?_ | refine TL.condF rfl DecF ?_ | refine TL.condT rfl BoT ?_ | refine TL.condF rfl BoF ?_) | apply TL.block | apply TL.endB | apply TL.exit rfl | apply TL.exitOut rfl | apply TL.ret | apply TL.skip | apply TL.nil | apply loopK.exit rfl | apply loopK.ret | apply loopK.exitOut rfl))
        exact retK.v rfl
      · have e : wholeB s.length a = false := by simp [wholeB]; omega
        rw [e]
        refine Spec.mk [] Try.call154 Try.func154 Try.ntmps154 Try.results154 rfl (by kernel_rfl) (by kernel_rfl) ?_
        (repeat (first | apply TL.seq | ((first | apply TL.pl | apply TL.dr _ (by kernel_rfl)); (repeat (first | (apply RX.kN; refine RX.x OpA rfl ?_) | (apply RX.kG; first | refine RX.y rfl rfl rfl GdA OpA ?_ | refine RX.n rfl rfl rfl GdA rfl rfl ?_ | refine RX.nU rfl rfl rfl rfl rfl ?_ | refine RX.nS rfl rfl rfl GdA rfl ?_))); (try apply RX.nil _ (by kernel_rfl))) | (apply TL.kC; first | refine TL.condT rfl DecT ?_ | refine TL.condF rfl DecF ?_ | refine TL.condT rfl BoT ?_ | refine TL.condF rfl BoF ?_) | apply TL.block | apply TL.endB | apply TL.exit rfl | apply TL.exitOut rfl | apply TL.ret | apply TL.skip | apply TL.nil | apply loopK.exit rfl | apply loopK.ret | apply loopK.exitOut rfl))
        exact retK.v rfl
    · have e : wholeB s.length a = false := by simp [wholeB]; omega
      rw [e]
      refine Spec.mk [] Try.call154 Try.func154 Try.ntmps154 Try.results154 rfl (by kernel_rfl) (by kernel_rfl) ?_
      (repeat (first | apply TL.seq | ((first | apply TL.pl | apply TL.dr _ (by kernel_rfl)); (repeat (first | (apply RX.kN; refine RX.x OpA rfl ?_) | (apply RX.kG; first | refine RX.y rfl rfl rfl GdA OpA ?_ | refine RX.n rfl rfl rfl GdA rfl rfl ?_ | refine RX.nU rfl rfl rfl rfl rfl ?_ | refine RX.nS rfl rfl rfl GdA rfl ?_))); (try apply RX.nil _ (by kernel_rfl))) | (apply TL.kC; first | refine TL.condT rfl DecT ?_ | refine TL.condF rfl DecF ?_ | refine TL.condT rfl BoT ?_ | refine TL.condF rfl BoF ?_) | apply TL.block | apply TL.endB | apply TL.exit rfl | apply TL.exitOut rfl | apply TL.ret | apply TL.skip | apply TL.nil | apply loopK.exit rfl | apply loopK.ret | apply loopK.exitOut rfl))
      exact retK.v rfl
  · have e : wholeB s.length a = false := by simp [wholeB]; omega
    rw [e]
    refine Spec.mk [] Try.call154 Try.func154 Try.ntmps154 Try.results154 rfl (by kernel_rfl) (by kernel_rfl) ?_
    (repeat (first | apply TL.seq | ((first | apply TL.pl | apply TL.dr _ (by kernel_rfl)); (repeat (first | (apply RX.kN; refine RX.x OpA rfl ?_) | (apply RX.kG; first | refine RX.y rfl rfl rfl GdA OpA ?_ | refine RX.n rfl rfl rfl GdA rfl rfl ?_ | refine RX.nU rfl rfl rfl rfl rfl ?_ | refine RX.nS rfl rfl rfl GdA rfl ?_))); (try apply RX.nil _ (by kernel_rfl))) | (apply TL.kC; first | refine TL.condT rfl DecT ?_ | refine TL.condF rfl DecF ?_ | refine TL.condT rfl BoT ?_ | refine TL.condF rfl BoF ?_) | apply TL.block | apply TL.endB | apply TL.exit rfl | apply TL.exitOut rfl | apply TL.ret | apply TL.skip | apply TL.nil | apply loopK.exit rfl | apply loopK.ret | apply loopK.exitOut rfl))
    exact retK.v rfl
theorem new1_s (a : PArc) : Spec Try.prog 132 [arcS a] [] (iv a.fr) [] := by
  refine Spec.mk [] Try.call132 Try.func132 Try.ntmps132 Try.results132 rfl (by kernel_rfl) (by kernel_rfl) ?_
  (repeat (first | apply TL.seq | ((first | apply TL.pl | apply TL.dr _ (by kernel_rfl)); (repeat (first | (apply RX.kN; refine RX.x OpA rfl ?_) | (apply RX.kG; first | refine RX.y rfl rfl rfl GdA OpA ?_ | refine RX.n rfl rfl rfl GdA rfl rfl ?_ | refine RX.nU rfl rfl rfl rfl rfl ?_ | refine RX.nS rfl rfl rfl GdA rfl ?_))); (try apply RX.nil _ (by kernel_rfl))) | (apply TL.kC; first | refine TL.condT rfl DecT ?_ | refine TL.condF rfl DecF ?_ | refine TL.condT rfl BoT ?_ | refine TL.condF rfl BoF ?_) | apply TL.block | apply TL.endB | apply TL.exit rfl | apply TL.exitOut rfl | apply TL.ret | apply TL.skip | apply TL.nil | apply loopK.exit rfl | apply loopK.ret | apply loopK.exitOut rfl))
  exact retK.v rfl
theorem new2_s (a : PArc) : Spec Try.prog 133 [arcS a] [] (iv a.dt) [] := by
  refine Spec.mk [] Try.call133 Try.func133 Try.ntmps133 Try.results133 rfl (by kernel_rfl) (by kernel_rfl) ?_
  (repeat (first | apply TL.seq | ((first | apply TL.pl | apply TL.dr _ (by kernel_rfl)); (repeat (first | (apply RX.kN; refine RX.x OpA rfl ?_) | (apply RX.kG; first | refine RX.y rfl rfl rfl GdA OpA ?_ | refine RX.n rfl rfl rfl GdA rfl rfl ?_ | refine RX.nU rfl rfl rfl rfl rfl ?_ | refine RX.nS rfl rfl rfl GdA rfl ?_))); (try apply RX.nil _ (by kernel_rfl))) | (apply TL.kC; first | refine TL.condT rfl DecT ?_ | refine TL.condF rfl DecF ?_ | refine TL.condT rfl BoT ?_ | refine TL.condF rfl BoF ?_) | apply TL.block | apply TL.endB | apply TL.exit rfl | apply TL.exitOut rfl | apply TL.ret | apply TL.skip | apply TL.nil | apply loopK.exit rfl | apply loopK.ret | apply loopK.exitOut rfl))
  exact retK.v rfl
theorem cloneI_s (l : List Int) (h1 : l.length ≤ 1000000001) : Spec Try.prog 155 [.a 1000 l.length] [(1000, .ro eInt l)] (.a 2000 l.length) [(2000, .own 3 eInt l)] := by
  by_cases h0 : 0 < l.length
  · refine Spec.mk [] Try.call155 Try.func155 Try.ntmps155 Try.results155 rfl (by kernel_rfl) (by kernel_rfl) ?_
    (repeat (first | apply TL.seq | ((first | apply TL.pl | apply TL.dr _ (by kernel_rfl)); (repeat (first | (apply RX.kN; refine RX.x OpA rfl ?_) | (apply RX.kG; first | refine RX.y rfl rfl rfl GdA OpA ?_ | refine RX.n rfl rfl rfl GdA rfl rfl ?_ | refine RX.nU rfl rfl rfl rfl rfl ?_ | refine RX.nS rfl rfl rfl GdA rfl ?_))); (try apply RX.nil _ (by kernel_rfl))) | (apply TL.kC; first | refine TL.condT rfl DecT ?_ | refine TL.condF rfl DecF ?_ | refine TL.condT rfl BoT ?_ | refine TL.condF rfl BoF ?_) | apply TL.block | apply TL.endB | apply TL.exit rfl | apply TL.exitOut rfl | apply TL.ret | apply TL.skip | apply TL.nil | apply loopK.exit rfl | apply loopK.ret | apply loopK.exitOut rfl))
    simp only [Nat.zero_add, List.nil_append]
    exact retK.one (sg [(2000, 7)]) rfl LeA
  · obtain rfl : l = [] := List.eq_nil_of_length_eq_zero (by omega)
    refine Spec.empties rfl fun ao cp => ?_
    refine Spec.mk [] Try.call155 Try.func155 Try.ntmps155 Try.results155 rfl (by kernel_rfl) (by kernel_rfl) ?_
    cases ao with
    | none =>
      (repeat (first | apply TL.seq | ((first | apply TL.pl | apply TL.dr _ (by kernel_rfl)); (repeat (first | (apply RX.kN; refine RX.x OpA rfl ?_) | (apply RX.kG; first | refine RX.y rfl rfl rfl GdA OpA ?_ | refine RX.n rfl rfl rfl GdA rfl rfl ?_ | refine RX.nU rfl rfl rfl rfl rfl ?_ | refine RX.nS rfl rfl rfl GdA rfl ?_))); (try apply RX.nil _ (by kernel_rfl))) | (apply TL.kC; first | refine TL.condT rfl DecT ?_ | refine TL.condF rfl DecF ?_ | refine TL.condT rfl BoT ?_ | refine TL.condF rfl BoF ?_) | apply TL.block | apply TL.endB | apply TL.exit rfl | apply TL.exitOut rfl | apply TL.skip | apply TL.nil | apply loopK.exit rfl | apply loopK.ret | apply loopK.exitOut rfl))
      refine TL.viewNil 2 3000 3 eInt rfl rfl rfl ?_
      apply TL.ret
      exact retK.one (sg [(2000, 3000)]) rfl LeA
    | some ad =>
      (repeat (first | apply TL.seq | ((first | apply TL.pl | apply TL.dr _ (by kernel_rfl)); (repeat (first | (apply RX.kN; refine RX.x OpA rfl ?_) | (apply RX.kG; first | refine RX.y rfl rfl rfl GdA OpA ?_ | refine RX.n rfl rfl rfl GdA rfl rfl ?_ | refine RX.nU rfl rfl rfl rfl rfl ?_ | refine RX.nS rfl rfl rfl GdA rfl ?_))); (try apply RX.nil _ (by kernel_rfl))) | (apply TL.kC; first | refine TL.condT rfl DecT ?_ | refine TL.condF rfl DecF ?_ | refine TL.condT rfl BoT ?_ | refine TL.condF rfl BoF ?_) | apply TL.block | apply TL.endB | apply TL.exit rfl | apply TL.exitOut rfl | apply TL.ret | apply TL.skip | apply TL.nil | apply loopK.exit rfl | apply loopK.ret | apply loopK.exitOut rfl))
      exact retK.one (sg [(2000, 5)]) rfl LeA
set_option maxHeartbeats 1000000 in
theorem rows_s (s : List Int) (l : List PArc) (f : FuncId) (sel : PArc → Int) (hf : ∀ a, Spec Try.prog f [arcS a] [] (iv (sel a)) []) (hs : ∀ a ∈ l, wholeB s.length a = true → 0 ≤ sel a ∧ sel a < s.length) (h1 : s.length ≤ 1000000000) (h2 : l.length ≤ 1000000000) :
    Spec Try.prog 131 [vI s l, .fn f []] (hI s l) (.tup [.a 2000 (cu s.length sel l s.length), .a 2001 (s.length + 1)])
      [(2000, .own 3 eInt (rowN s.length sel l l.length)), (2001, .own 3 eInt (rng s.length (cu s.length sel l)))] := by
  have z : List.replicate (s.length + 1) eInt.zero = rng s.length (c1 s.length sel (l.take 0)) := by
    rw [show eInt.zero = (0 : Int) from rfl, rng_zero]
    exact rng_congr fun j _ => by simp [c1]
  have hcu := fun j => cu_le (n := s.length) (sel := sel) (l := l) j
  refine Spec.mk [] Try.call131 Try.func131 Try.ntmps131 Try.results131 rfl (by kernel_rfl) (by kernel_rfl) ?_
  (repeat (first | apply TL.seq | ((first | apply TL.pl | apply TL.dr _ (by kernel_rfl)); (repeat (first | (apply RX.kN; refine RX.x OpA rfl ?_) | (apply RX.kG; first | refine RX.y rfl rfl rfl GdA OpA ?_ | refine RX.n rfl rfl rfl GdA rfl rfl ?_ | refine RX.nU rfl rfl rfl rfl rfl ?_ | refine RX.nS rfl rfl rfl GdA rfl ?_))); (try apply RX.nil _ (by kernel_rfl))) | (apply TL.kC; first | refine TL.condT rfl DecT ?_ | refine TL.condF rfl DecF ?_ | refine TL.condT rfl BoT ?_ | refine TL.condF rfl BoF ?_) | apply TL.block | apply TL.endB | apply TL.exit rfl | apply TL.exitOut rfl | apply TL.ret | apply TL.skip | apply TL.nil | apply loopK.exit rfl | apply loopK.ret | apply loopK.exitOut rfl))
  refine RX.x (OpR.make' (n := s.length + 1) rfl rfl (by omega) rfl rfl rfl) rfl ?_
  rw [z]
  ((repeat (first | (apply RX.kN; refine RX.x OpA rfl ?_) | (apply RX.kG; first | refine RX.y rfl rfl rfl GdA OpA ?_ | refine RX.n rfl rfl rfl GdA rfl rfl ?_ | refine RX.nU rfl rfl rfl rfl rfl ?_ | refine RX.nS rfl rfl rfl GdA rfl ?_))); (try apply RX.nil _ (by kernel_rfl)); repeat (first | apply TL.seq | ((first | apply TL.pl | apply TL.dr _ (by kernel_rfl)); (repeat (first | (apply RX.kN; refine RX.x OpA rfl ?_) | (apply RX.kG; first | refine RX.y rfl rfl rfl GdA OpA ?_ | refine RX.n rfl rfl rfl GdA rfl rfl ?_ | refine RX.nU rfl rfl rfl rfl rfl ?_ | refine RX.nS rfl rfl rfl GdA rfl ?_))); (try apply RX.nil _ (by kernel_rfl))) | (apply TL.kC; first | refine TL.condT rfl DecT ?_ | refine TL.condF rfl DecF ?_ | refine TL.condT rfl BoT ?_ | refine TL.condF rfl BoF ?_) | apply TL.block | apply TL.endB | apply TL.exit rfl | apply TL.exitOut rfl | apply TL.ret | apply TL.skip | apply TL.nil | apply loopK.exit rfl | apply loopK.ret | apply loopK.exitOut rfl))
  refine TL.loop (ρ := fun i => i) (X := Nat) (fun k => ⟨[(1, .fn f []), (2, .p 2 0), (5, .a 16 (s.length + 1)), (18, .a 1001 l.length), (19, iv l.length), (20, iv k)], [(1000, .ro eInt s), (1001, .ro eArc l), (2, .cells 25 [.a 1000 s.length, .a 1001 l.length]), (16, .own 3 eInt (rng s.length (c1 s.length sel (l.take k))))]⟩) (fun k => k ≤ l.length) (fun k => l.length - k) 0 (by omega) LeI ?_
  intro k hk
  by_cases hlt : k < l.length
  · obtain ⟨a, ha⟩ := at_ hlt
    by_cases hw : wholeB s.length a = true
    · obtain ⟨s1, s2⟩ := hs a (List.mem_of_getElem? ha) hw
      have hv : (rng s.length (c1 s.length sel (l.take k)))[(sel a + 1).toNat]? = some ((c1 s.length sel (l.take k) (sel a + 1).toNat : Nat) : Int) := rng_at _ (by omega)
      have hL1 := rng_len s.length (c1 s.length sel (l.take k))
      have hb : c1 s.length sel (l.take k) (sel a + 1).toNat ≤ k := Nat.le_trans (c1_le _) (by simp; omega)
      have hset : (rng s.length (c1 s.length sel (l.take k))).set (sel a + 1).toNat (((c1 s.length sel (l.take k) (sel a + 1).toNat : Nat) : Int) + 1) = rng s.length (c1 s.length sel (l.take (k + 1))) := by
        rw [take_snoc ha]
        refine rng_set (by omega) ?_ fun i hi => ?_
        · rw [c1_snoc, if_pos ⟨hw, by omega⟩]; rfl
        · rw [c1_snoc, if_neg (by rintro ⟨_, h⟩; omega)]; rfl
      (repeat (first | apply TL.seq | ((first | apply TL.pl | apply TL.dr _ (by kernel_rfl)); (repeat (first | (apply RX.kN; refine RX.x OpA rfl ?_) | (apply RX.kG; first | refine RX.y rfl rfl rfl GdA OpA ?_ | refine RX.n rfl rfl rfl GdA rfl rfl ?_ | refine RX.nU rfl rfl rfl rfl rfl ?_ | refine RX.nS rfl rfl rfl GdA rfl ?_))); (try apply RX.nil _ (by kernel_rfl))) | (apply TL.kC; first | refine TL.condT rfl DecT ?_ | refine TL.condF rfl DecF ?_ | refine TL.condT rfl BoT ?_ | refine TL.condF rfl BoF ?_) | apply TL.block | apply TL.endB | apply TL.exit rfl | apply TL.exitOut rfl | apply TL.ret | apply TL.skip | apply TL.nil | apply loopK.exit rfl | apply loopK.ret | apply loopK.exitOut rfl))
      (first | refine RX.x (OpR.callA (whole_s s l a) (sg []) LeA) rfl ?_ | refine RX.y rfl rfl rfl GdA (OpR.callA (whole_s s l a) (sg []) LeA) ?_); ((repeat (first | (apply RX.kN; refine RX.x OpA rfl ?_) | (apply RX.kG; first | refine RX.y rfl rfl rfl GdA OpA ?_ | refine RX.n rfl rfl rfl GdA rfl rfl ?_ | refine RX.nU rfl rfl rfl rfl rfl ?_ | refine RX.nS rfl rfl rfl GdA rfl ?_))); (try apply RX.nil _ (by kernel_rfl)); repeat (first | apply TL.seq | ((first | apply TL.pl | apply TL.dr _ (by kernel_rfl)); (repeat (first | (apply RX.kN; refine RX.x OpA rfl ?_) | (apply RX.kG; first | refine RX.y rfl rfl rfl GdA OpA ?_ | refine RX.n rfl rfl rfl GdA rfl rfl ?_ | refine RX.nU rfl rfl rfl rfl rfl ?_ | refine RX.nS rfl rfl rfl GdA rfl ?_))); (try apply RX.nil _ (by kernel_rfl))) | (apply TL.kC; first | refine TL.condT rfl DecT ?_ | refine TL.condF rfl DecF ?_ | refine TL.condT rfl BoT ?_ | refine TL.condF rfl BoF ?_) | apply TL.block | apply TL.endB | apply TL.exit rfl | apply TL.exitOut rfl | apply TL.ret | apply TL.skip | apply TL.nil | apply loopK.exit rfl | apply loopK.ret | apply loopK.exitOut rfl))
      (first | refine RX.x (OpR.callA (hf a) (sg []) LeA) rfl ?_ | refine RX.y rfl rfl rfl GdA (OpR.callA (hf a) (sg []) LeA) ?_); ((repeat (first | (apply RX.kN; refine RX.x OpA rfl ?_) | (apply RX.kG; first | refine RX.y rfl rfl rfl GdA OpA ?_ | refine RX.n rfl rfl rfl GdA rfl rfl ?_ | refine RX.nU rfl rfl rfl rfl rfl ?_ | refine RX.nS rfl rfl rfl GdA rfl ?_))); (try apply RX.nil _ (by kernel_rfl)); repeat (first | apply TL.seq | ((first | apply TL.pl | apply TL.dr _ (by kernel_rfl)); (repeat (first | (apply RX.kN; refine RX.x OpA rfl ?_) | (apply RX.kG; first | refine RX.y rfl rfl rfl GdA OpA ?_ | refine RX.n rfl rfl rfl GdA rfl rfl ?_ | refine RX.nU rfl rfl rfl rfl rfl ?_ | refine RX.nS rfl rfl rfl GdA rfl ?_))); (try apply RX.nil _ (by kernel_rfl))) | (apply TL.kC; first | refine TL.condT rfl DecT ?_ | refine TL.condF rfl DecF ?_ | refine TL.condT rfl BoT ?_ | refine TL.condF rfl BoF ?_) | apply TL.block | apply TL.endB | apply TL.exit rfl | apply TL.exitOut rfl | apply TL.ret | apply TL.skip | apply TL.nil | apply loopK.exit rfl | apply loopK.ret | apply loopK.exitOut rfl))
      exact loopK.normal ⟨k + 1, fun i => i, hlt, by omega, by rw [← hset]; exact LeI⟩
    · have hw' : wholeB s.length a = false := by simpa using hw
      have hset : rng s.length (c1 s.length sel (l.take (k + 1))) = rng s.length (c1 s.length sel (l.take k)) := by
        rw [take_snoc ha]
        refine rng_congr fun j _ => ?_
        rw [c1_snoc, if_neg (by rintro ⟨h, _⟩; exact hw h)]; rfl
      (repeat (first | apply TL.seq | ((first | apply TL.pl | apply TL.dr _ (by kernel_rfl)); (repeat (first | (apply RX.kN; refine RX.x OpA rfl ?_) | (apply RX.kG; first | refine RX.y rfl rfl rfl GdA OpA ?_ | refine RX.n rfl rfl rfl GdA rfl rfl ?_ | refine RX.nU rfl rfl rfl rfl rfl ?_ | refine RX.nS rfl rfl rfl GdA rfl ?_))); (try apply RX.nil _ (by kernel_rfl))) | (apply TL.kC; first | refine TL.condT rfl DecT ?_ | refine TL.condF rfl DecF ?_ | refine TL.condT rfl BoT ?_ | refine TL.condF rfl BoF ?_) | apply TL.block | apply TL.endB | apply TL.exit rfl | apply TL.exitOut rfl | apply TL.ret | apply TL.skip | apply TL.nil | apply loopK.exit rfl | apply loopK.ret | apply loopK.exitOut rfl))
      (first | refine RX.x (OpR.callA (whole_s s l a) (sg []) LeA) rfl ?_ | refine RX.y rfl rfl rfl GdA (OpR.callA (whole_s s l a) (sg []) LeA) ?_); ((repeat (first | (apply RX.kN; refine RX.x OpA rfl ?_) | (apply RX.kG; first | refine RX.y rfl rfl rfl GdA OpA ?_ | refine RX.n rfl rfl rfl GdA rfl rfl ?_ | refine RX.nU rfl rfl rfl rfl rfl ?_ | refine RX.nS rfl rfl rfl GdA rfl ?_))); (try apply RX.nil _ (by kernel_rfl)); repeat (first | apply TL.seq | ((first | apply TL.pl | apply TL.dr _ (by kernel_rfl)); (repeat (first | (apply RX.kN; refine RX.x OpA rfl ?_) | (apply RX.kG; first | refine RX.y rfl rfl rfl GdA OpA ?_ | refine RX.n rfl rfl rfl GdA rfl rfl ?_ | refine RX.nU rfl rfl rfl rfl rfl ?_ | refine RX.nS rfl rfl rfl GdA rfl ?_))); (try apply RX.nil _ (by kernel_rfl))) | (apply TL.kC; first | refine TL.condT rfl DecT ?_ | refine TL.condF rfl DecF ?_ | refine TL.condT rfl BoT ?_ | refine TL.condF rfl BoF ?_) | apply TL.block | apply TL.endB | apply TL.exit rfl | apply TL.exitOut rfl | apply TL.ret | apply TL.skip | apply TL.nil | apply loopK.exit rfl | apply loopK.ret | apply loopK.exitOut rfl))
      exact loopK.normal ⟨k + 1, fun i => i, hlt, by omega, by rw [hset]; exact LeI⟩
  obtain rfl : k = l.length := by omega
  have hz : rng s.length (c1 s.length sel (l.take l.length)) = rng s.length (fun j => if j ≤ 0 then cu s.length sel l j else c1 s.length sel l j) := by
    rw [List.take_length]
    refine rng_congr fun j _ => ?_
    split
    · obtain rfl : j = 0 := by omega
      exact (cu_zero fun a ha hw => (hs a ha hw).1).symm
    · rfl
  rw [hz]
  clear hz hk hlt z
  (repeat (first | apply TL.seq | ((first | apply TL.pl | apply TL.dr _ (by kernel_rfl)); (repeat (first | (apply RX.kN; refine RX.x OpA rfl ?_) | (apply RX.kG; first | refine RX.y rfl rfl rfl GdA OpA ?_ | refine RX.n rfl rfl rfl GdA rfl rfl ?_ | refine RX.nU rfl rfl rfl rfl rfl ?_ | refine RX.nS rfl rfl rfl GdA rfl ?_))); (try apply RX.nil _ (by kernel_rfl))) | (apply TL.kC; first | refine TL.condT rfl DecT ?_ | refine TL.condF rfl DecF ?_ | refine TL.condT rfl BoT ?_ | refine TL.condF rfl BoF ?_) | apply TL.block | apply TL.endB | apply TL.exit rfl | apply TL.exitOut rfl | apply TL.ret | apply TL.skip | apply TL.nil | apply loopK.exit rfl | apply loopK.ret | apply loopK.exitOut rfl))
  refine TL.loop (ρ := fun i => i) (X := Nat) (fun k => ⟨[(1, .fn f []), (2, .p 2 0), (5, .a 16 (s.length + 1)), (39, iv s.length), (40, iv k)], [(1000, .ro eInt s), (1001, .ro eArc l), (2, .cells 25 [.a 1000 s.length, .a 1001 l.length]), (16, .own 3 eInt (rng s.length (fun j => if j ≤ k then cu s.length sel l j else c1 s.length sel l j)))]⟩) (fun k => k ≤ s.length) (fun k => s.length - k) 0 (by omega) LeI ?_
  intro k hk
  by_cases hlt : k < s.length
  · have hv0 : (rng s.length (fun j => if j ≤ k then cu s.length sel l j else c1 s.length sel l j))[k]? = some ((cu s.length sel l k : Nat) : Int) := by
      rw [rng_at _ (by omega), if_pos (Nat.le_refl k)]
    have hv1 : (rng s.length (fun j => if j ≤ k then cu s.length sel l j else c1 s.length sel l j))[((k : Int) + 1).toNat]? = some ((c1 s.length sel l (k + 1) : Nat) : Int) := by
      rw [show ((k : Int) + 1).toNat = k + 1 by omega, rng_at _ (by omega), if_neg (by omega)]
    have hL2 := rng_len s.length (fun j => if j ≤ k then cu s.length sel l j else c1 s.length sel l j)
    have hb0 := hcu k
    have hb1 := c1_le (n := s.length) (sel := sel) (l := l) (k + 1)
    have hset : (rng s.length (fun j => if j ≤ k then cu s.length sel l j else c1 s.length sel l j)).set ((k : Int) + 1).toNat (((c1 s.length sel l (k + 1) : Nat) : Int) + ((cu s.length sel l k : Nat) : Int)) = rng s.length (fun j => if j ≤ k + 1 then cu s.length sel l j else c1 s.length sel l j) := by
      refine rng_set (by omega) ?_ fun i hi => ?_
      · rw [show ((k : Int) + 1).toNat = k + 1 by omega, if_pos (Nat.le_refl _), cu_succ]
        omega
      · by_cases h : i ≤ k
        · rw [if_pos h, if_pos (by omega)]
        · rw [if_neg h, if_neg (by omega)]
    (repeat (first | apply TL.seq | ((first | apply TL.pl | apply TL.dr _ (by kernel_rfl)); (repeat (first | (apply RX.kN; refine RX.x OpA rfl ?_) | (apply RX.kG; first | refine RX.y rfl rfl rfl GdA OpA ?_ | refine RX.n rfl rfl rfl GdA rfl rfl ?_ | refine RX.nU rfl rfl rfl rfl rfl ?_ | refine RX.nS rfl rfl rfl GdA rfl ?_))); (try apply RX.nil _ (by kernel_rfl))) | (apply TL.kC; first | refine TL.condT rfl DecT ?_ | refine TL.condF rfl DecF ?_ | refine TL.condT rfl BoT ?_ | refine TL.condF rfl BoF ?_) | apply TL.block | apply TL.endB | apply TL.exit rfl | apply TL.exitOut rfl | apply TL.ret | apply TL.skip | apply TL.nil | apply loopK.exit rfl | apply loopK.ret | apply loopK.exitOut rfl))
    exact loopK.normal ⟨k + 1, fun i => i, hlt, by omega, by rw [← hset]; exact LeI⟩
  obtain rfl : k = s.length := by omega
  have hz : rng s.length (fun j => if j ≤ s.length then cu s.length sel l j else c1 s.length sel l j) = rng s.length (cu s.length sel l) := rng_congr fun j hj => if_pos hj
  rw [hz]
  have hvT : (rng s.length (cu s.length sel l))[s.length]? = some ((cu s.length sel l s.length : Nat) : Int) := rng_at _ (Nat.le_refl _)
  have hbT := hcu s.length
  have hL3 := rng_len s.length (cu s.length sel l)
  have pc := cloneI_s (rng s.length (cu s.length sel l)) (by rw [rng_len]; omega)
  rw [rng_len] at pc
  have hrow0 : List.replicate (cu s.length sel l s.length) eInt.zero = rowN s.length sel l 0 := rfl
  clear hz hk hlt
  (repeat (first | apply TL.seq | ((first | apply TL.pl | apply TL.dr _ (by kernel_rfl)); (repeat (first | (apply RX.kN; refine RX.x OpA rfl ?_) | (apply RX.kG; first | refine RX.y rfl rfl rfl GdA OpA ?_ | refine RX.n rfl rfl rfl GdA rfl rfl ?_ | refine RX.nU rfl rfl rfl rfl rfl ?_ | refine RX.nS rfl rfl rfl GdA rfl ?_))); (try apply RX.nil _ (by kernel_rfl))) | (apply TL.kC; first | refine TL.condT rfl DecT ?_ | refine TL.condF rfl DecF ?_ | refine TL.condT rfl BoT ?_ | refine TL.condF rfl BoF ?_) | apply TL.block | apply TL.endB | apply TL.exit rfl | apply TL.exitOut rfl | apply TL.ret | apply TL.skip | apply TL.nil | apply loopK.exit rfl | apply loopK.ret | apply loopK.exitOut rfl))
  rw [hrow0]
  refine RX.x (OpR.callP pc (sg [(1000, 16), (2000, 63)]) LeA (.a 63 _) [(63, .own _ _ _)]) rfl ?_
  ((repeat (first | (apply RX.kN; refine RX.x OpA rfl ?_) | (apply RX.kG; first | refine RX.y rfl rfl rfl GdA OpA ?_ | refine RX.n rfl rfl rfl GdA rfl rfl ?_ | refine RX.nU rfl rfl rfl rfl rfl ?_ | refine RX.nS rfl rfl rfl GdA rfl ?_))); (try apply RX.nil _ (by kernel_rfl)); repeat (first | apply TL.seq | ((first | apply TL.pl | apply TL.dr _ (by kernel_rfl)); (repeat (first | (apply RX.kN; refine RX.x OpA rfl ?_) | (apply RX.kG; first | refine RX.y rfl rfl rfl GdA OpA ?_ | refine RX.n rfl rfl rfl GdA rfl rfl ?_ | refine RX.nU rfl rfl rfl rfl rfl ?_ | refine RX.nS rfl rfl rfl GdA rfl ?_))); (try apply RX.nil _ (by kernel_rfl))) | (apply TL.kC; first | refine TL.condT rfl DecT ?_ | refine TL.condF rfl DecF ?_ | refine TL.condT rfl BoT ?_ | refine TL.condF rfl BoF ?_) | apply TL.block | apply TL.endB | apply TL.exit rfl | apply TL.exitOut rfl | apply TL.ret | apply TL.skip | apply TL.nil | apply loopK.exit rfl | apply loopK.ret | apply loopK.exitOut rfl))
  have hnx0 : rng s.length (cu s.length sel l) = rng s.length (fun j => cu s.length sel l j + c1 s.length sel (l.take 0) (j + 1)) := rng_congr fun j _ => by simp [c1]
  refine TL.loop (ρ := fun i => i) (X := Nat) (fun k => ⟨[(1, .fn f []), (2, .p 2 0), (4, .a 61 (cu s.length sel l s.length)), (5, .a 16 (s.length + 1)), (9, .a 63 (s.length + 1)), (65, .a 1001 l.length), (66, iv l.length), (67, iv k)], [(1000, .ro eInt s), (1001, .ro eArc l), (2, .cells 25 [.a 1000 s.length, .a 1001 l.length]), (16, .own 3 eInt (rng s.length (cu s.length sel l))), (61, .own 3 eInt (rowN s.length sel l k)), (63, .own 3 eInt (rng s.length (fun j => cu s.length sel l j + c1 s.length sel (l.take k) (j + 1))))]⟩) (fun k => k ≤ l.length) (fun k => l.length - k) 0 (by omega) ?_ ?_
  · rw [← hnx0]
    exact LeI
  intro k hk
  by_cases hlt : k < l.length
  · obtain ⟨a, ha⟩ := at_ hlt
    have hrl := rowN_len (n := s.length) (sel := sel) (l := l) k
    by_cases hw : wholeB s.length a = true
    · obtain ⟨s1, s2⟩ := hs a (List.mem_of_getElem? ha) hw
      have hv : (rng s.length (fun j => cu s.length sel l j + c1 s.length sel (l.take k) (j + 1)))[(sel a).toNat]? = some ((cu s.length sel l (sel a).toNat + c1 s.length sel (l.take k) ((sel a).toNat + 1) : Nat) : Int) := rng_at _ (by omega)
      have hL4 := rng_len s.length (fun j => cu s.length sel l j + c1 s.length sel (l.take k) (j + 1))
      have hlt2 : cu s.length sel l (sel a).toNat + c1 s.length sel (l.take k) ((sel a).toNat + 1) < cu s.length sel l s.length := by
        have e1 := c1_take_lt (n := s.length) (sel := sel) (j := (sel a).toNat + 1) ha hw (by omega)
        have e2 := cu_succ (n := s.length) (sel := sel) (l := l) (sel a).toNat
        have e3 := cu_mono (n := s.length) (sel := sel) (l := l) (show (sel a).toNat + 1 ≤ s.length by omega)
        omega
      have hset : (rng s.length (fun j => cu s.length sel l j + c1 s.length sel (l.take k) (j + 1))).set (sel a).toNat (((cu s.length sel l (sel a).toNat + c1 s.length sel (l.take k) ((sel a).toNat + 1) : Nat) : Int) + 1) = rng s.length (fun j => cu s.length sel l j + c1 s.length sel (l.take (k + 1)) (j + 1)) := by
        rw [take_snoc ha]
        refine rng_set (by omega) ?_ fun i hi => ?_
        · rw [c1_snoc, if_pos ⟨hw, by omega⟩]; omega
        · rw [c1_snoc, if_neg (by rintro ⟨_, h⟩; omega)]; rfl
      have hrs : (rowN s.length sel l k).set (cu s.length sel l (sel a).toNat + c1 s.length sel (l.take k) ((sel a).toNat + 1)) k = rowN s.length sel l (k + 1) := by
        rw [rowN, ha]
        simp only [hw, if_true]
      generalize hvv : cu s.length sel l (sel a).toNat + c1 s.length sel (l.take k) ((sel a).toNat + 1) = v at *
      obtain ⟨r, hr⟩ := at_ (l := rowN s.length sel l k) (k := v) (by rw [hrl]; exact hlt2)
      (repeat (first | apply TL.seq | ((first | apply TL.pl | apply TL.dr _ (by kernel_rfl)); (repeat (first | (apply RX.kN; refine RX.x OpA rfl ?_) | (apply RX.kG; first | refine RX.y rfl rfl rfl GdA OpA ?_ | refine RX.n rfl rfl rfl GdA rfl rfl ?_ | refine RX.nU rfl rfl rfl rfl rfl ?_ | refine RX.nS rfl rfl rfl GdA rfl ?_))); (try apply RX.nil _ (by kernel_rfl))) | (apply TL.kC; first | refine TL.condT rfl DecT ?_ | refine TL.condF rfl DecF ?_ | refine TL.condT rfl BoT ?_ | refine TL.condF rfl BoF ?_) | apply TL.block | apply TL.endB | apply TL.exit rfl | apply TL.exitOut rfl | apply TL.ret | apply TL.skip | apply TL.nil | apply loopK.exit rfl | apply loopK.ret | apply loopK.exitOut rfl))
      (first | refine RX.x (OpR.callA (whole_s s l a) (sg []) LeA) rfl ?_ | refine RX.y rfl rfl rfl GdA (OpR.callA (whole_s s l a) (sg []) LeA) ?_); ((repeat (first | (apply RX.kN; refine RX.x OpA rfl ?_) | (apply RX.kG; first | refine RX.y rfl rfl rfl GdA OpA ?_ | refine RX.n rfl rfl rfl GdA rfl rfl ?_ | refine RX.nU rfl rfl rfl rfl rfl ?_ | refine RX.nS rfl rfl rfl GdA rfl ?_))); (try apply RX.nil _ (by kernel_rfl)); repeat (first | apply TL.seq | ((first | apply TL.pl | apply TL.dr _ (by kernel_rfl)); (repeat (first | (apply RX.kN; refine RX.x OpA rfl ?_) | (apply RX.kG; first | refine RX.y rfl rfl rfl GdA OpA ?_ | refine RX.n rfl rfl rfl GdA rfl rfl ?_ | refine RX.nU rfl rfl rfl rfl rfl ?_ | refine RX.nS rfl rfl rfl GdA rfl ?_))); (try apply RX.nil _ (by kernel_rfl))) | (apply TL.kC; first | refine TL.condT rfl DecT ?_ | refine TL.condF rfl DecF ?_ | refine TL.condT rfl BoT ?_ | refine TL.condF rfl BoF ?_) | apply TL.block | apply TL.endB | apply TL.exit rfl | apply TL.exitOut rfl | apply TL.ret | apply TL.skip | apply TL.nil | apply loopK.exit rfl | apply loopK.ret | apply loopK.exitOut rfl))
      (first | refine RX.x (OpR.callA (hf a) (sg []) LeA) rfl ?_ | refine RX.y rfl rfl rfl GdA (OpR.callA (hf a) (sg []) LeA) ?_); ((repeat (first | (apply RX.kN; refine RX.x OpA rfl ?_) | (apply RX.kG; first | refine RX.y rfl rfl rfl GdA OpA ?_ | refine RX.n rfl rfl rfl GdA rfl rfl ?_ | refine RX.nU rfl rfl rfl rfl rfl ?_ | refine RX.nS rfl rfl rfl GdA rfl ?_))); (try apply RX.nil _ (by kernel_rfl)); repeat (first | apply TL.seq | ((first | apply TL.pl | apply TL.dr _ (by kernel_rfl)); (repeat (first | (apply RX.kN; refine RX.x OpA rfl ?_) | (apply RX.kG; first | refine RX.y rfl rfl rfl GdA OpA ?_ | refine RX.n rfl rfl rfl GdA rfl rfl ?_ | refine RX.nU rfl rfl rfl rfl rfl ?_ | refine RX.nS rfl rfl rfl GdA rfl ?_))); (try apply RX.nil _ (by kernel_rfl))) | (apply TL.kC; first | refine TL.condT rfl DecT ?_ | refine TL.condF rfl DecF ?_ | refine TL.condT rfl BoT ?_ | refine TL.condF rfl BoF ?_) | apply TL.block | apply TL.endB | apply TL.exit rfl | apply TL.exitOut rfl | apply TL.ret | apply TL.skip | apply TL.nil | apply loopK.exit rfl | apply loopK.ret | apply loopK.exitOut rfl))
      (first | refine RX.x (OpR.callA (hf a) (sg []) LeA) rfl ?_ | refine RX.y rfl rfl rfl GdA (OpR.callA (hf a) (sg []) LeA) ?_); ((repeat (first | (apply RX.kN; refine RX.x OpA rfl ?_) | (apply RX.kG; first | refine RX.y rfl rfl rfl GdA OpA ?_ | refine RX.n rfl rfl rfl GdA rfl rfl ?_ | refine RX.nU rfl rfl rfl rfl rfl ?_ | refine RX.nS rfl rfl rfl GdA rfl ?_))); (try apply RX.nil _ (by kernel_rfl)); repeat (first | apply TL.seq | ((first | apply TL.pl | apply TL.dr _ (by kernel_rfl)); (repeat (first | (apply RX.kN; refine RX.x OpA rfl ?_) | (apply RX.kG; first | refine RX.y rfl rfl rfl GdA OpA ?_ | refine RX.n rfl rfl rfl GdA rfl rfl ?_ | refine RX.nU rfl rfl rfl rfl rfl ?_ | refine RX.nS rfl rfl rfl GdA rfl ?_))); (try apply RX.nil _ (by kernel_rfl))) | (apply TL.kC; first | refine TL.condT rfl DecT ?_ | refine TL.condF rfl DecF ?_ | refine TL.condT rfl BoT ?_ | refine TL.condF rfl BoF ?_) | apply TL.block | apply TL.endB | apply TL.exit rfl | apply TL.exitOut rfl | apply TL.ret | apply TL.skip | apply TL.nil | apply loopK.exit rfl | apply loopK.ret | apply loopK.exitOut rfl))
      exact loopK.normal ⟨k + 1, fun i => i, hlt, by omega, by rw [← hset, ← hrs]; exact LeI⟩
    · have hw' : wholeB s.length a = false := by simpa using hw
      have hset : rng s.length (fun j => cu s.length sel l j + c1 s.length sel (l.take (k + 1)) (j + 1)) = rng s.length (fun j => cu s.length sel l j + c1 s.length sel (l.take k) (j + 1)) := by
        rw [take_snoc ha]
        refine rng_congr fun j _ => ?_
        rw [c1_snoc, if_neg (by rintro ⟨h, _⟩; exact hw h)]; rfl
      have hrs : rowN s.length sel l (k + 1) = rowN s.length sel l k := by
        rw [rowN, ha]
        simp [hw']
      (repeat (first | apply TL.seq | ((first | apply TL.pl | apply TL.dr _ (by kernel_rfl)); (repeat (first | (apply RX.kN; refine RX.x OpA rfl ?_) | (apply RX.kG; first | refine RX.y rfl rfl rfl GdA OpA ?_ | refine RX.n rfl rfl rfl GdA rfl rfl ?_ | refine RX.nU rfl rfl rfl rfl rfl ?_ | refine RX.nS rfl rfl rfl GdA rfl ?_))); (try apply RX.nil _ (by kernel_rfl))) | (apply TL.kC; first | refine TL.condT rfl DecT ?_ | refine TL.condF rfl DecF ?_ | refine TL.condT rfl BoT ?_ | refine TL.condF rfl BoF ?_) | apply TL.block | apply TL.endB | apply TL.exit rfl | apply TL.exitOut rfl | apply TL.ret | apply TL.skip | apply TL.nil | apply loopK.exit rfl | apply loopK.ret | apply loopK.exitOut rfl))
      (first | refine RX.x (OpR.callA (whole_s s l a) (sg []) LeA) rfl ?_ | refine RX.y rfl rfl rfl GdA (OpR.callA (whole_s s l a) (sg []) LeA) ?_); ((repeat (first | (apply RX.kN; refine RX.x OpA rfl ?_) | (apply RX.kG; first | refine RX.y rfl rfl rfl GdA OpA ?_ | refine RX.n rfl rfl rfl GdA rfl rfl ?_ | refine RX.nU rfl rfl rfl rfl rfl ?_ | refine RX.nS rfl rfl rfl GdA rfl ?_))); (try apply RX.nil _ (by kernel_rfl)); repeat (first | apply TL.seq | ((first | apply TL.pl | apply TL.dr _ (by kernel_rfl)); (repeat (first | (apply RX.kN; refine RX.x OpA rfl ?_) | (apply RX.kG; first | refine RX.y rfl rfl rfl GdA OpA ?_ | refine RX.n rfl rfl rfl GdA rfl rfl ?_ | refine RX.nU rfl rfl rfl rfl rfl ?_ | refine RX.nS rfl rfl rfl GdA rfl ?_))); (try apply RX.nil _ (by kernel_rfl))) | (apply TL.kC; first | refine TL.condT rfl DecT ?_ | refine TL.condF rfl DecF ?_ | refine TL.condT rfl BoT ?_ | refine TL.condF rfl BoF ?_) | apply TL.block | apply TL.endB | apply TL.exit rfl | apply TL.exitOut rfl | apply TL.ret | apply TL.skip | apply TL.nil | apply loopK.exit rfl | apply loopK.ret | apply loopK.exitOut rfl))
      exact loopK.normal ⟨k + 1, fun i => i, hlt, by omega, by rw [hset, hrs]; exact LeI⟩
  obtain rfl : k = l.length := by omega
  (repeat (first | apply TL.seq | ((first | apply TL.pl | apply TL.dr _ (by kernel_rfl)); (repeat (first | (apply RX.kN; refine RX.x OpA rfl ?_) | (apply RX.kG; first | refine RX.y rfl rfl rfl GdA OpA ?_ | refine RX.n rfl rfl rfl GdA rfl rfl ?_ | refine RX.nU rfl rfl rfl rfl rfl ?_ | refine RX.nS rfl rfl rfl GdA rfl ?_))); (try apply RX.nil _ (by kernel_rfl))) | (apply TL.kC; first | refine TL.condT rfl DecT ?_ | refine TL.condF rfl DecF ?_ | refine TL.condT rfl BoT ?_ | refine TL.condF rfl BoF ?_) | apply TL.block | apply TL.endB | apply TL.exit rfl | apply TL.exitOut rfl | apply TL.ret | apply TL.skip | apply TL.nil | apply loopK.exit rfl | apply loopK.ret | apply loopK.exitOut rfl))
  exact retK.two (sg [(2000, 61), (2001, 16)]) rfl rfl LeA
end Go.Proofs.Ytiboffhdabeiiaa
