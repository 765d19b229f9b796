/-
  ray: arcs, what a way round has to be, Turns, Sum; by symbolic steps.
-/
import Derived.Test.YtiboffhdabeiiaaSxV
import Derived.Test.YtiboffhdabeiiaaCtC
import Derived.Test.YtiboffhdabeiiaaWdA
namespace Go.Proofs.Ytiboffhdabeiiaa
open Go Go.RowKit
@[reducible] def hR (r : List Int) : List (Nat × Chunk) := [(1002, .ro eInt r)]
@[reducible] def cR (r : List Int) : Chunk := .cells 35 [.a 1002 r.length]
theorem indexFunc_s (s : List Int) (l : List PArc) (r : List Int) (f : FuncId) (p : Int → Bool) (z : Int) (hl : r.length ≤ 1000000000)
    (hf : ∀ a ∈ r, Spec Try.prog f [iv a, .p 1003 0] (hI s l ++ [(1003, cI s l)]) (bv (p a)) [(1003, cI s l)])
    (hn : r.any p = false → z = -1) (hz : ∀ (k : Nat) a, (r.take k).any p = false → r[k]? = some a → p a = true → z = k) :
    Spec Try.prog 153 [.a 1002 r.length, .fn f [.p 1003 0]] (hI s l ++ [(1003, cI s l)] ++ hR r) (iv z) [(1003, cI s l)] := by
  refine Spec.mk [1000, 1001, 1003] Try.call153 Try.func153 Try.ntmps153 Try.results153 rfl (by kernel_rfl) (by kernel_rfl) ?_
  (repeat (first | apply TL.seq | ((first | apply TL.pl | apply TL.dr _ (by kernel_rfl)); (repeat (first | (apply RX.kN; refine RX.x OpA rfl ?_) | (apply RX.kG; first | refine RX.y rfl rfl rfl GdA OpA ?_ | refine RX.n rfl rfl rfl GdA rfl rfl ?_ | refine RX.nU rfl rfl rfl rfl rfl ?_ | refine RX.nS rfl rfl rfl GdA rfl ?_))); (try apply RX.nil _ (by kernel_rfl))) | (apply TL.kC; first | refine TL.condT rfl DecT ?_ | refine TL.condF rfl DecF ?_ | refine TL.condT rfl BoT ?_ | refine TL.condF rfl BoF ?_) | apply TL.block | apply TL.endB | apply TL.exit rfl | apply TL.exitOut rfl | apply TL.ret | apply TL.skip | apply TL.nil | apply loopK.exit rfl | apply loopK.ret | apply loopK.exitOut rfl))
  refine TL.loop (ρ := fun i => i) (X := Nat) (fun k => ⟨[(0, .a 1002 r.length), (1, .fn f [.p 1003 0]), (7, iv r.length), (8, iv k)], hI s l ++ [(1003, cI s l)] ++ hR r⟩) (fun k => k ≤ r.length ∧ (r.take k).any p = false) (fun k => r.length - k) 0 ⟨by omega, rfl⟩ LeI ?_
  rintro k ⟨hk, hno⟩
  by_cases hlt : k < r.length
  · obtain ⟨a, ha⟩ := at_ hlt
    have pf := hf a (List.mem_of_getElem? ha)
    cases hp : p a with
    | true =>
      rw [hp] at pf
      obtain rfl := hz k a hno ha hp
      (repeat (first | apply TL.seq | ((first | apply TL.pl | apply TL.dr _ (by kernel_rfl)); (repeat (first | (apply RX.kN; refine RX.x OpA rfl ?_) | (apply RX.kG; first | refine RX.y rfl rfl rfl GdA OpA ?_ | refine RX.n rfl rfl rfl GdA rfl rfl ?_ | refine RX.nU rfl rfl rfl rfl rfl ?_ | refine RX.nS rfl rfl rfl GdA rfl ?_))); (try apply RX.nil _ (by kernel_rfl))) | (apply TL.kC; first | refine TL.condT rfl DecT ?_ | refine TL.condF rfl DecF ?_ | refine TL.condT rfl BoT ?_ | refine TL.condF rfl BoF ?_) | apply TL.block | apply TL.endB | apply TL.exit rfl | apply TL.exitOut rfl | apply TL.ret | apply TL.skip | apply TL.nil | apply loopK.exit rfl | apply loopK.ret | apply loopK.exitOut rfl))
      (first | refine RX.x (OpR.callP (pf) (sg []) LeA (bv true) [(1003, cI s l)]) rfl ?_ | refine RX.y rfl rfl rfl GdA (OpR.callP (pf) (sg []) LeA (bv true) [(1003, cI s l)]) ?_); ((repeat (first | (apply RX.kN; refine RX.x OpA rfl ?_) | (apply RX.kG; first | refine RX.y rfl rfl rfl GdA OpA ?_ | refine RX.n rfl rfl rfl GdA rfl rfl ?_ | refine RX.nU rfl rfl rfl rfl rfl ?_ | refine RX.nS rfl rfl rfl GdA rfl ?_))); (try apply RX.nil _ (by kernel_rfl)); repeat (first | apply TL.seq | ((first | apply TL.pl | apply TL.dr _ (by kernel_rfl)); (repeat (first | (apply RX.kN; refine RX.x OpA rfl ?_) | (apply RX.kG; first | refine RX.y rfl rfl rfl GdA OpA ?_ | refine RX.n rfl rfl rfl GdA rfl rfl ?_ | refine RX.nU rfl rfl rfl rfl rfl ?_ | refine RX.nS rfl rfl rfl GdA rfl ?_))); (try apply RX.nil _ (by kernel_rfl))) | (apply TL.kC; first | refine TL.condT rfl DecT ?_ | refine TL.condF rfl DecF ?_ | refine TL.condT rfl BoT ?_ | refine TL.condF rfl BoF ?_) | apply TL.block | apply TL.endB | apply TL.exit rfl | apply TL.exitOut rfl | apply TL.ret | apply TL.skip | apply TL.nil | apply loopK.exit rfl | apply loopK.ret | apply loopK.exitOut rfl))
      exact retK.vp (fun i => i) rfl LeA
    | false =>
      rw [hp] at pf
      (repeat (first | apply TL.seq | ((first | apply TL.pl | apply TL.dr _ (by kernel_rfl)); (repeat (first | (apply RX.kN; refine RX.x OpA rfl ?_) | (apply RX.kG; first | refine RX.y rfl rfl rfl GdA OpA ?_ | refine RX.n rfl rfl rfl GdA rfl rfl ?_ | refine RX.nU rfl rfl rfl rfl rfl ?_ | refine RX.nS rfl rfl rfl GdA rfl ?_))); (try apply RX.nil _ (by kernel_rfl))) | (apply TL.kC; first | refine TL.condT rfl DecT ?_ | refine TL.condF rfl DecF ?_ | refine TL.condT rfl BoT ?_ | refine TL.condF rfl BoF ?_) | apply TL.block | apply TL.endB | apply TL.exit rfl | apply TL.exitOut rfl | apply TL.ret | apply TL.skip | apply TL.nil | apply loopK.exit rfl | apply loopK.ret | apply loopK.exitOut rfl))
      (first | refine RX.x (OpR.callP (pf) (sg []) LeA (bv false) [(1003, cI s l)]) rfl ?_ | refine RX.y rfl rfl rfl GdA (OpR.callP (pf) (sg []) LeA (bv false) [(1003, cI s l)]) ?_); ((repeat (first | (apply RX.kN; refine RX.x OpA rfl ?_) | (apply RX.kG; first | refine RX.y rfl rfl rfl GdA OpA ?_ | refine RX.n rfl rfl rfl GdA rfl rfl ?_ | refine RX.nU rfl rfl rfl rfl rfl ?_ | refine RX.nS rfl rfl rfl GdA rfl ?_))); (try apply RX.nil _ (by kernel_rfl)); repeat (first | apply TL.seq | ((first | apply TL.pl | apply TL.dr _ (by kernel_rfl)); (repeat (first | (apply RX.kN; refine RX.x OpA rfl ?_) | (apply RX.kG; first | refine RX.y rfl rfl rfl GdA OpA ?_ | refine RX.n rfl rfl rfl GdA rfl rfl ?_ | refine RX.nU rfl rfl rfl rfl rfl ?_ | refine RX.nS rfl rfl rfl GdA rfl ?_))); (try apply RX.nil _ (by kernel_rfl))) | (apply TL.kC; first | refine TL.condT rfl DecT ?_ | refine TL.condF rfl DecF ?_ | refine TL.condT rfl BoT ?_ | refine TL.condF rfl BoF ?_) | apply TL.block | apply TL.endB | apply TL.exit rfl | apply TL.exitOut rfl | apply TL.ret | apply TL.skip | apply TL.nil | apply loopK.exit rfl | apply loopK.ret | apply loopK.exitOut rfl))
      exact loopK.normal ⟨k + 1, fun i => i, ⟨hlt, by rw [take_snoc ha, List.any_append, hno]; simp [hp]⟩, by omega, LeI⟩
  · obtain rfl : k = r.length := by omega
    rw [List.take_length] at hno
    obtain rfl := hn hno
    (repeat (first | apply TL.seq | ((first | apply TL.pl | apply TL.dr _ (by kernel_rfl)); (repeat (first | (apply RX.kN; refine RX.x OpA rfl ?_) | (apply RX.kG; first | refine RX.y rfl rfl rfl GdA OpA ?_ | refine RX.n rfl rfl rfl GdA rfl rfl ?_ | refine RX.nU rfl rfl rfl rfl rfl ?_ | refine RX.nS rfl rfl rfl GdA rfl ?_))); (try apply RX.nil _ (by kernel_rfl))) | (apply TL.kC; first | refine TL.condT rfl DecT ?_ | refine TL.condF rfl DecF ?_ | refine TL.condT rfl BoT ?_ | refine TL.condF rfl BoF ?_) | apply TL.block | apply TL.endB | apply TL.exit rfl | apply TL.exitOut rfl | apply TL.ret | apply TL.skip | apply TL.nil | apply loopK.exit rfl | apply loopK.ret | apply loopK.exitOut rfl))
    exact retK.vp (fun i => i) rfl LeA
theorem containsFunc_s (s : List Int) (l : List PArc) (r : List Int) (f : FuncId) (p : Int → Bool) (hl : r.length ≤ 1000000000)
    (hf : ∀ a ∈ r, Spec Try.prog f [iv a, .p 1003 0] (hI s l ++ [(1003, cI s l)]) (bv (p a)) [(1003, cI s l)]) :
    Spec Try.prog 128 [.a 1002 r.length, .fn f [.p 1003 0]] (hI s l ++ [(1003, cI s l)] ++ hR r) (bv (r.any p)) [(1003, cI s l)] := by
  cases hany : r.any p with
  | false =>
    have pi := indexFunc_s s l r f p (-1) hl hf (fun _ => rfl) (fun k a _ h2 h3 => by
      rw [List.any_eq_true.2 ⟨a, List.mem_of_getElem? h2, h3⟩] at hany
      cases hany)
    refine Spec.mk [1000, 1001, 1003] Try.call128 Try.func128 Try.ntmps128 Try.results128 rfl (by kernel_rfl) (by kernel_rfl) ?_
    (repeat (first | apply TL.seq | ((first | apply TL.pl | apply TL.dr _ (by kernel_rfl)); (repeat (first | (apply RX.kN; refine RX.x OpA rfl ?_) | (apply RX.kG; first | refine RX.y rfl rfl rfl GdA OpA ?_ | refine RX.n rfl rfl rfl GdA rfl rfl ?_ | refine RX.nU rfl rfl rfl rfl rfl ?_ | refine RX.nS rfl rfl rfl GdA rfl ?_))); (try apply RX.nil _ (by kernel_rfl))) | (apply TL.kC; first | refine TL.condT rfl DecT ?_ | refine TL.condF rfl DecF ?_ | refine TL.condT rfl BoT ?_ | refine TL.condF rfl BoF ?_) | apply TL.block | apply TL.endB | apply TL.exit rfl | apply TL.exitOut rfl | apply TL.ret | apply TL.skip | apply TL.nil | apply loopK.exit rfl | apply loopK.ret | apply loopK.exitOut rfl))
    (first | refine RX.x (OpR.callP (pi) (sg []) LeA (iv (-1)) [(1003, cI s l)]) rfl ?_ | refine RX.y rfl rfl rfl GdA (OpR.callP (pi) (sg []) LeA (iv (-1)) [(1003, cI s l)]) ?_); ((repeat (first | (apply RX.kN; refine RX.x OpA rfl ?_) | (apply RX.kG; first | refine RX.y rfl rfl rfl GdA OpA ?_ | refine RX.n rfl rfl rfl GdA rfl rfl ?_ | refine RX.nU rfl rfl rfl rfl rfl ?_ | refine RX.nS rfl rfl rfl GdA rfl ?_))); (try apply RX.nil _ (by kernel_rfl)); repeat (first | apply TL.seq | ((first | apply TL.pl | apply TL.dr _ (by kernel_rfl)); (repeat (first | (apply RX.kN; refine RX.x OpA rfl ?_) | (apply RX.kG; first | refine RX.y rfl rfl rfl GdA OpA ?_ | refine RX.n rfl rfl rfl GdA rfl rfl ?_ | refine RX.nU rfl rfl rfl rfl rfl ?_ | refine RX.nS rfl rfl rfl GdA rfl ?_))); (try apply RX.nil _ (by kernel_rfl))) | (apply TL.kC; first | refine TL.condT rfl DecT ?_ | refine TL.condF rfl DecF ?_ | refine TL.condT rfl BoT ?_ | refine TL.condF rfl BoF ?_) | apply TL.block | apply TL.endB | apply TL.exit rfl | apply TL.exitOut rfl | apply TL.ret | apply TL.skip | apply TL.nil | apply loopK.exit rfl | apply loopK.ret | apply loopK.exitOut rfl))
    exact retK.vp (fun i => i) rfl LeA
  | true =>
    obtain ⟨k0, a0, f1, f2, f3⟩ := first_of (List.any_eq_true.1 hany)
    have pi := indexFunc_s s l r f p k0 hl hf (fun h => by rw [h] at hany; cases hany) (fun k a h1 h2 h3 => by
      have : k = k0 := by
        rcases Nat.lt_trichotomy k k0 with h | h | h
        · exact absurd h3 (by rw [f3 k a h h2]; simp)
        · exact h
        · have : (r.take k).any p = true := List.any_eq_true.2 ⟨a0, by rw [List.mem_iff_getElem?]; exact ⟨k0, by rw [List.getElem?_take, if_pos h]; exact f1⟩, f2⟩
          rw [this] at h1
          cases h1
      rw [this])
    have hk0 : (0 : Int) ≤ (k0 : Int) := Int.natCast_nonneg _
    refine Spec.mk [1000, 1001, 1003] Try.call128 Try.func128 Try.ntmps128 Try.results128 rfl (by kernel_rfl) (by kernel_rfl) ?_
    (repeat (first | apply TL.seq | ((first | apply TL.pl | apply TL.dr _ (by kernel_rfl)); (repeat (first | (apply RX.kN; refine RX.x OpA rfl ?_) | (apply RX.kG; first | refine RX.y rfl rfl rfl GdA OpA ?_ | refine RX.n rfl rfl rfl GdA rfl rfl ?_ | refine RX.nU rfl rfl rfl rfl rfl ?_ | refine RX.nS rfl rfl rfl GdA rfl ?_))); (try apply RX.nil _ (by kernel_rfl))) | (apply TL.kC; first | refine TL.condT rfl DecT ?_ | refine TL.condF rfl DecF ?_ | refine TL.condT rfl BoT ?_ | refine TL.condF rfl BoF ?_) | apply TL.block | apply TL.endB | apply TL.exit rfl | apply TL.exitOut rfl | apply TL.ret | apply TL.skip | apply TL.nil | apply loopK.exit rfl | apply loopK.ret | apply loopK.exitOut rfl))
    (first | refine RX.x (OpR.callP (pi) (sg []) LeA (iv k0) [(1003, cI s l)]) rfl ?_ | refine RX.y rfl rfl rfl GdA (OpR.callP (pi) (sg []) LeA (iv k0) [(1003, cI s l)]) ?_); ((repeat (first | (apply RX.kN; refine RX.x OpA rfl ?_) | (apply RX.kG; first | refine RX.y rfl rfl rfl GdA OpA ?_ | refine RX.n rfl rfl rfl GdA rfl rfl ?_ | refine RX.nU rfl rfl rfl rfl rfl ?_ | refine RX.nS rfl rfl rfl GdA rfl ?_))); (try apply RX.nil _ (by kernel_rfl)); repeat (first | apply TL.seq | ((first | apply TL.pl | apply TL.dr _ (by kernel_rfl)); (repeat (first | (apply RX.kN; refine RX.x OpA rfl ?_) | (apply RX.kG; first | refine RX.y rfl rfl rfl GdA OpA ?_ | refine RX.n rfl rfl rfl GdA rfl rfl ?_ | refine RX.nU rfl rfl rfl rfl rfl ?_ | refine RX.nS rfl rfl rfl GdA rfl ?_))); (try apply RX.nil _ (by kernel_rfl))) | (apply TL.kC; first | refine TL.condT rfl DecT ?_ | refine TL.condF rfl DecF ?_ | refine TL.condT rfl BoT ?_ | refine TL.condF rfl BoF ?_) | apply TL.block | apply TL.endB | apply TL.exit rfl | apply TL.exitOut rfl | apply TL.ret | apply TL.skip | apply TL.nil | apply loopK.exit rfl | apply loopK.ret | apply loopK.exitOut rfl))
    exact retK.vp (fun i => i) (vBool (dT hk0)) LeA
/-- Whether a number is not one of an arc. -/
def outB (l : List PArc) (a : Int) : Bool := decide (a < 0 ∨ (l.length : Int) ≤ a)
theorem arcs1_s (s : List Int) (l : List PArc) (a : Int) : Spec Try.prog 152 [iv a, .p 1003 0] (hI s l ++ [(1003, cI s l)]) (bv (outB l a)) [(1003, cI s l)] := by
  by_cases h1 : a < 0
  · rw [show outB l a = true from dT (.inl h1)]
    refine Spec.mk [1000, 1001, 1003] Try.call152 Try.func152 Try.ntmps152 Try.results152 rfl (by kernel_rfl) (by kernel_rfl) ?_
    (repeat (first | apply TL.seq | ((first | apply TL.pl | apply TL.dr _ (by kernel_rfl)); (repeat (first | (apply RX.kN; refine RX.x OpA rfl ?_) | (apply RX.kG; first | refine RX.y rfl rfl rfl GdA OpA ?_ | refine RX.n rfl rfl rfl GdA rfl rfl ?_ | refine RX.nU rfl rfl rfl rfl rfl ?_ | refine RX.nS rfl rfl rfl GdA rfl ?_))); (try apply RX.nil _ (by kernel_rfl))) | (apply TL.kC; first | refine TL.condT rfl DecT ?_ | refine TL.condF rfl DecF ?_ | refine TL.condT rfl BoT ?_ | refine TL.condF rfl BoF ?_) | apply TL.block | apply TL.endB | apply TL.exit rfl | apply TL.exitOut rfl | apply TL.ret | apply TL.skip | apply TL.nil | apply loopK.exit rfl | apply loopK.ret | apply loopK.exitOut rfl))
    exact retK.vp (fun i => i) rfl LeA
  · by_cases h2 : (l.length : Int) ≤ a
    · rw [show outB l a = true from dT (.inr h2)]
      refine Spec.mk [1000, 1001, 1003] Try.call152 Try.func152 Try.ntmps152 Try.results152 rfl (by kernel_rfl) (by kernel_rfl) ?_
      (repeat (first | apply TL.seq | ((first | apply TL.pl | apply TL.dr _ (by kernel_rfl)); (repeat (first | (apply RX.kN; refine RX.x OpA rfl ?_) | (apply RX.kG; first | refine RX.y rfl rfl rfl GdA OpA ?_ | refine RX.n rfl rfl rfl GdA rfl rfl ?_ | refine RX.nU rfl rfl rfl rfl rfl ?_ | refine RX.nS rfl rfl rfl GdA rfl ?_))); (try apply RX.nil _ (by kernel_rfl))) | (apply TL.kC; first | refine TL.condT rfl DecT ?_ | refine TL.condF rfl DecF ?_ | refine TL.condT rfl BoT ?_ | refine TL.condF rfl BoF ?_) | apply TL.block | apply TL.endB | apply TL.exit rfl | apply TL.exitOut rfl | apply TL.ret | apply TL.skip | apply TL.nil | apply loopK.exit rfl | apply loopK.ret | apply loopK.exitOut rfl))
      exact retK.vp (fun i => i) (vBool (dT h2)) LeA
    · rw [show outB l a = false from dF (by omega)]
      refine Spec.mk [1000, 1001, 1003] Try.call152 Try.func152 Try.ntmps152 Try.results152 rfl (by kernel_rfl) (by kernel_rfl) ?_
      (repeat (first | apply TL.seq | ((first | apply TL.pl | apply TL.dr _ (by kernel_rfl)); (repeat (first | (apply RX.kN; refine RX.x OpA rfl ?_) | (apply RX.kG; first | refine RX.y rfl rfl rfl GdA OpA ?_ | refine RX.n rfl rfl rfl GdA rfl rfl ?_ | refine RX.nU rfl rfl rfl rfl rfl ?_ | refine RX.nS rfl rfl rfl GdA rfl ?_))); (try apply RX.nil _ (by kernel_rfl))) | (apply TL.kC; first | refine TL.condT rfl DecT ?_ | refine TL.condF rfl DecF ?_ | refine TL.condT rfl BoT ?_ | refine TL.condF rfl BoF ?_) | apply TL.block | apply TL.endB | apply TL.exit rfl | apply TL.exitOut rfl | apply TL.ret | apply TL.skip | apply TL.nil | apply loopK.exit rfl | apply loopK.ret | apply loopK.exitOut rfl))
      exact retK.vp (fun i => i) (vBool (dF h2)) LeA
theorem rarcs_s (s : List Int) (l : List PArc) (r : List Int) (hl : r.length ≤ 1000000000) : Spec Try.prog 124 [vI s l, .a 1002 r.length] (hI s l ++ hR r) (bv (!r.any (outB l))) [] := by
  have pc := containsFunc_s s l r 152 (outB l) hl (fun a _ => arcs1_s s l a)
  refine Spec.mk [] Try.call124 Try.func124 Try.ntmps124 Try.results124 rfl (by kernel_rfl) (by kernel_rfl) ?_
  (repeat (first | apply TL.seq | ((first | apply TL.pl | apply TL.dr _ (by kernel_rfl)); (repeat (first | (apply RX.kN; refine RX.x OpA rfl ?_) | (apply RX.kG; first | refine RX.y rfl rfl rfl GdA OpA ?_ | refine RX.n rfl rfl rfl GdA rfl rfl ?_ | refine RX.nU rfl rfl rfl rfl rfl ?_ | refine RX.nS rfl rfl rfl GdA rfl ?_))); (try apply RX.nil _ (by kernel_rfl))) | (apply TL.kC; first | refine TL.condT rfl DecT ?_ | refine TL.condF rfl DecF ?_ | refine TL.condT rfl BoT ?_ | refine TL.condF rfl BoF ?_) | apply TL.block | apply TL.endB | apply TL.exit rfl | apply TL.exitOut rfl | apply TL.ret | apply TL.skip | apply TL.nil | apply loopK.exit rfl | apply loopK.ret | apply loopK.exitOut rfl))
  (first | refine RX.x (OpR.callP (pc) (sg [(1003, 2)]) LeA (bv (r.any (outB l))) [(2, cI s l)]) rfl ?_ | refine RX.y rfl rfl rfl GdA (OpR.callP (pc) (sg [(1003, 2)]) LeA (bv (r.any (outB l))) [(2, cI s l)]) ?_); ((repeat (first | (apply RX.kN; refine RX.x OpA rfl ?_) | (apply RX.kG; first | refine RX.y rfl rfl rfl GdA OpA ?_ | refine RX.n rfl rfl rfl GdA rfl rfl ?_ | refine RX.nU rfl rfl rfl rfl rfl ?_ | refine RX.nS rfl rfl rfl GdA rfl ?_))); (try apply RX.nil _ (by kernel_rfl)); repeat (first | apply TL.seq | ((first | apply TL.pl | apply TL.dr _ (by kernel_rfl)); (repeat (first | (apply RX.kN; refine RX.x OpA rfl ?_) | (apply RX.kG; first | refine RX.y rfl rfl rfl GdA OpA ?_ | refine RX.n rfl rfl rfl GdA rfl rfl ?_ | refine RX.nU rfl rfl rfl rfl rfl ?_ | refine RX.nS rfl rfl rfl GdA rfl ?_))); (try apply RX.nil _ (by kernel_rfl))) | (apply TL.kC; first | refine TL.condT rfl DecT ?_ | refine TL.condF rfl DecF ?_ | refine TL.condT rfl BoT ?_ | refine TL.condF rfl BoF ?_) | apply TL.block | apply TL.endB | apply TL.exit rfl | apply TL.exitOut rfl | apply TL.ret | apply TL.skip | apply TL.nil | apply loopK.exit rfl | apply loopK.ret | apply loopK.exitOut rfl))
  exact retK.v rfl
theorem ask1_s (s : List Int) (l : List PArc) (r : List Int) (hl : r.length ≤ 1000000000) : Spec Try.prog 123 [.p 1003 0, .p 1004 0] (hI s l ++ hR r ++ [(1003, cI s l), (1004, cR r)]) (bv (!r.any (outB l))) [(1003, cI s l), (1004, cR r)] := by
  refine Spec.mk [1000, 1001, 1002, 1003, 1004] Try.call123 Try.func123 Try.ntmps123 Try.results123 rfl (by kernel_rfl) (by kernel_rfl) ?_
  (repeat (first | apply TL.seq | ((first | apply TL.pl | apply TL.dr _ (by kernel_rfl)); (repeat (first | (apply RX.kN; refine RX.x OpA rfl ?_) | (apply RX.kG; first | refine RX.y rfl rfl rfl GdA OpA ?_ | refine RX.n rfl rfl rfl GdA rfl rfl ?_ | refine RX.nU rfl rfl rfl rfl rfl ?_ | refine RX.nS rfl rfl rfl GdA rfl ?_))); (try apply RX.nil _ (by kernel_rfl))) | (apply TL.kC; first | refine TL.condT rfl DecT ?_ | refine TL.condF rfl DecF ?_ | refine TL.condT rfl BoT ?_ | refine TL.condF rfl BoF ?_) | apply TL.block | apply TL.endB | apply TL.exit rfl | apply TL.exitOut rfl | apply TL.ret | apply TL.skip | apply TL.nil | apply loopK.exit rfl | apply loopK.ret | apply loopK.exitOut rfl))
  (first | refine RX.x (OpR.callA (rarcs_s s l r hl) (sg []) LeA) rfl ?_ | refine RX.y rfl rfl rfl GdA (OpR.callA (rarcs_s s l r hl) (sg []) LeA) ?_); ((repeat (first | (apply RX.kN; refine RX.x OpA rfl ?_) | (apply RX.kG; first | refine RX.y rfl rfl rfl GdA OpA ?_ | refine RX.n rfl rfl rfl GdA rfl rfl ?_ | refine RX.nU rfl rfl rfl rfl rfl ?_ | refine RX.nS rfl rfl rfl GdA rfl ?_))); (try apply RX.nil _ (by kernel_rfl)); repeat (first | apply TL.seq | ((first | apply TL.pl | apply TL.dr _ (by kernel_rfl)); (repeat (first | (apply RX.kN; refine RX.x OpA rfl ?_) | (apply RX.kG; first | refine RX.y rfl rfl rfl GdA OpA ?_ | refine RX.n rfl rfl rfl GdA rfl rfl ?_ | refine RX.nU rfl rfl rfl rfl rfl ?_ | refine RX.nS rfl rfl rfl GdA rfl ?_))); (try apply RX.nil _ (by kernel_rfl))) | (apply TL.kC; first | refine TL.condT rfl DecT ?_ | refine TL.condF rfl DecF ?_ | refine TL.condT rfl BoT ?_ | refine TL.condF rfl BoF ?_) | apply TL.block | apply TL.endB | apply TL.exit rfl | apply TL.exitOut rfl | apply TL.ret | apply TL.skip | apply TL.nil | apply loopK.exit rfl | apply loopK.ret | apply loopK.exitOut rfl))
  exact retK.vp (fun i => i) rfl LeA
def setTo : List Int → DataW Unit := fun l => l.foldl (fun D a => D.put (.int .i64 a) (.agg [])) (.map [])
theorem setTo_snoc (l : List Int) (a : Int) : setTo (l ++ [a]) = (setTo l).put (.int .i64 a) (.agg []) := by simp [setTo]
theorem key_i64 (a : Int) : WideAt.IsKeyLit (.int .i64 a) := by simp [WideAt.IsKeyLit]
theorem setTo_spec' : ∀ (n : Nat) (l : List Int), l.length = n → Maps.Tidy (setTo l) ∧ (∀ b, Maps.has (setTo l) (.int .i64 b) = decide (b ∈ l)) ∧ Maps.size (setTo l) ≤ l.length ∧ (Maps.size (setTo l) = l.length ↔ l.Nodup) := by
  intro n
  induction n with
  | zero =>
    intro l hn
    obtain rfl := List.length_eq_zero_iff.1 hn
    exact ⟨⟨[], rfl, List.Pairwise.nil⟩, fun b => by simp [setTo, Maps.has], Nat.le_refl _, by simp [setTo, Maps.size]⟩
  | succ n ih =>
    intro l' hn
    obtain ⟨l, a, rfl⟩ : ∃ l a, l' = l ++ [a] := ⟨l'.dropLast, l'.getLast (by rintro rfl; simp at hn), (List.dropLast_concat_getLast _).symm⟩
    obtain ⟨h1, h2, h3, h4⟩ := ih l (by simpa using hn)
    have hsz := Maps.size_put (k := .int .i64 a) h1 (.agg [])
    rw [h2 a] at hsz
    refine ⟨by rw [setTo_snoc]; exact h1.put (key_i64 a) _, fun b => ?_, ?_, ?_⟩
    · rw [setTo_snoc]
      by_cases hb : b = a
      · subst hb
        rw [Maps.has_put_same ⟨_, h1.choose_spec.1⟩ (key_i64 b)]
        simp
      · rw [Maps.has_put_other (by simpa using hb), h2 b]
        simp [hb]
    · rw [setTo_snoc, hsz]
      split <;> simp <;> omega
    · rw [setTo_snoc, hsz, List.nodup_append]
      by_cases ha : a ∈ l
      · rw [if_pos (by simpa using ha)]
        constructor
        · intro e
          simp only [List.length_append, List.length_singleton] at e
          omega
        · rintro ⟨_, _, e⟩
          exact absurd rfl (e a ha a (by simp))
      · rw [if_neg (by simpa using ha)]
        simp only [List.length_append, List.length_singleton]
        constructor
        · intro e
          refine ⟨h4.1 (by omega), by simp, fun x hx y hy => ?_⟩
          simp at hy
          subst hy
          rintro rfl
          exact ha hx
        · rintro ⟨e, _, _⟩
          have := h4.2 e
          omega
theorem setTo_spec (l : List Int) : Maps.Tidy (setTo l) ∧ (∀ b, Maps.has (setTo l) (.int .i64 b) = decide (b ∈ l)) ∧ Maps.size (setTo l) ≤ l.length ∧ (Maps.size (setTo l) = l.length ↔ l.Nodup) := setTo_spec' l.length l rfl
theorem ask2_s (r : List Int) (hl : r.length ≤ 1000000) (hr : ∀ v ∈ r, -9223372036854775808 ≤ v ∧ v ≤ 9223372036854775807) : Spec Try.prog 125 [.p 1004 0] (hR r ++ [(1004, cR r)]) (bv (decide r.Nodup)) [(1004, cR r)] := by
  refine Spec.mk [1002, 1004] Try.call125 Try.func125 Try.ntmps125 Try.results125 rfl (by kernel_rfl) (by kernel_rfl) ?_
  (repeat (first | apply TL.seq | ((first | apply TL.pl | apply TL.dr _ (by kernel_rfl)); (repeat (first | (apply RX.kN; refine RX.x OpA rfl ?_) | (apply RX.kG; first | refine RX.y rfl rfl rfl GdA OpA ?_ | refine RX.n rfl rfl rfl GdA rfl rfl ?_ | refine RX.nU rfl rfl rfl rfl rfl ?_ | refine RX.nS rfl rfl rfl GdA rfl ?_))); (try apply RX.nil _ (by kernel_rfl))) | (apply TL.kC; first | refine TL.condT rfl DecT ?_ | refine TL.condF rfl DecF ?_ | refine TL.condT rfl BoT ?_ | refine TL.condF rfl BoF ?_) | apply TL.block | apply TL.endB | apply TL.exit rfl | apply TL.exitOut rfl | apply TL.ret | apply TL.skip | apply TL.nil | apply loopK.exit rfl | apply loopK.ret | apply loopK.exitOut rfl))
  refine RX.x (OpR.makeMap (k := 3) (e := 154) (by kernel_rfl) rfl rfl) rfl ?_
  ((repeat (first | (apply RX.kN; refine RX.x OpA rfl ?_) | (apply RX.kG; first | refine RX.y rfl rfl rfl GdA OpA ?_ | refine RX.n rfl rfl rfl GdA rfl rfl ?_ | refine RX.nU rfl rfl rfl rfl rfl ?_ | refine RX.nS rfl rfl rfl GdA rfl ?_))); (try apply RX.nil _ (by kernel_rfl)); repeat (first | apply TL.seq | ((first | apply TL.pl | apply TL.dr _ (by kernel_rfl)); (repeat (first | (apply RX.kN; refine RX.x OpA rfl ?_) | (apply RX.kG; first | refine RX.y rfl rfl rfl GdA OpA ?_ | refine RX.n rfl rfl rfl GdA rfl rfl ?_ | refine RX.nU rfl rfl rfl rfl rfl ?_ | refine RX.nS rfl rfl rfl GdA rfl ?_))); (try apply RX.nil _ (by kernel_rfl))) | (apply TL.kC; first | refine TL.condT rfl DecT ?_ | refine TL.condF rfl DecF ?_ | refine TL.condT rfl BoT ?_ | refine TL.condF rfl BoF ?_) | apply TL.block | apply TL.endB | apply TL.exit rfl | apply TL.exitOut rfl | apply TL.ret | apply TL.skip | apply TL.nil | apply loopK.exit rfl | apply loopK.ret | apply loopK.exitOut rfl))
  have e0 : setTo (r.take 0) = .map [] := rfl
  refine TL.loop (ρ := sg [(3000, 5)]) (X := Nat) (fun k => ⟨[(0, .p 1004 0), (2, .mp 3000), (6, .a 1002 r.length), (7, iv r.length), (8, iv k)], hR r ++ [(1004, cR r), (3000, .obj (setO Try.prog 3 k (setTo (r.take k))))]⟩) (fun k => k ≤ r.length) (fun k => r.length - k) 0 (by omega) (LeR (sg [(3000, 5)]) (by exact LeSA) (by rw [e0]; exact LeA)) ?_
  intro k hk
  by_cases hlt : k < r.length
  · obtain ⟨a, ha⟩ := at_ hlt
    have hab := hr a (List.mem_of_getElem? ha)
    have hst : setTo (r.take (k + 1)) = (setTo (r.take k)).put (.int .i64 a) (.agg []) := by rw [take_snoc ha, setTo_snoc]
    (repeat (first | apply TL.seq | ((first | apply TL.pl | apply TL.dr _ (by kernel_rfl)); (repeat (first | (apply RX.kN; refine RX.x OpA rfl ?_) | (apply RX.kG; first | refine RX.y rfl rfl rfl GdA OpA ?_ | refine RX.n rfl rfl rfl GdA rfl rfl ?_ | refine RX.nU rfl rfl rfl rfl rfl ?_ | refine RX.nS rfl rfl rfl GdA rfl ?_))); (try apply RX.nil _ (by kernel_rfl))) | (apply TL.kC; first | refine TL.condT rfl DecT ?_ | refine TL.condF rfl DecF ?_ | refine TL.condT rfl BoT ?_ | refine TL.condF rfl BoF ?_) | apply TL.block | apply TL.endB | apply TL.exit rfl | apply TL.exitOut rfl | apply TL.ret | apply TL.skip | apply TL.nil | apply loopK.exit rfl | apply loopK.ret | apply loopK.exitOut rfl))
    refine RX.x (OpR.mapUpdate (k := 3) (e := 154) (by kernel_rfl) (by kernel_rfl) rfl rfl rfl rfl hab (by unfold maxLen; omega)) rfl ?_
    ((repeat (first | (apply RX.kN; refine RX.x OpA rfl ?_) | (apply RX.kG; first | refine RX.y rfl rfl rfl GdA OpA ?_ | refine RX.n rfl rfl rfl GdA rfl rfl ?_ | refine RX.nU rfl rfl rfl rfl rfl ?_ | refine RX.nS rfl rfl rfl GdA rfl ?_))); (try apply RX.nil _ (by kernel_rfl)); repeat (first | apply TL.seq | ((first | apply TL.pl | apply TL.dr _ (by kernel_rfl)); (repeat (first | (apply RX.kN; refine RX.x OpA rfl ?_) | (apply RX.kG; first | refine RX.y rfl rfl rfl GdA OpA ?_ | refine RX.n rfl rfl rfl GdA rfl rfl ?_ | refine RX.nU rfl rfl rfl rfl rfl ?_ | refine RX.nS rfl rfl rfl GdA rfl ?_))); (try apply RX.nil _ (by kernel_rfl))) | (apply TL.kC; first | refine TL.condT rfl DecT ?_ | refine TL.condF rfl DecF ?_ | refine TL.condT rfl BoT ?_ | refine TL.condF rfl BoF ?_) | apply TL.block | apply TL.endB | apply TL.exit rfl | apply TL.exitOut rfl | apply TL.ret | apply TL.skip | apply TL.nil | apply loopK.exit rfl | apply loopK.ret | apply loopK.exitOut rfl))
    exact loopK.normal ⟨k + 1, fun i => i, hlt, by omega, by rw [hst]; exact LeI⟩
  · obtain rfl : k = r.length := by omega
    rw [List.take_length]
    obtain ⟨_, _, h3, h4⟩ := setTo_spec r
    (repeat (first | apply TL.seq | ((first | apply TL.pl | apply TL.dr _ (by kernel_rfl)); (repeat (first | (apply RX.kN; refine RX.x OpA rfl ?_) | (apply RX.kG; first | refine RX.y rfl rfl rfl GdA OpA ?_ | refine RX.n rfl rfl rfl GdA rfl rfl ?_ | refine RX.nU rfl rfl rfl rfl rfl ?_ | refine RX.nS rfl rfl rfl GdA rfl ?_))); (try apply RX.nil _ (by kernel_rfl))) | (apply TL.kC; first | refine TL.condT rfl DecT ?_ | refine TL.condF rfl DecF ?_ | refine TL.condT rfl BoT ?_ | refine TL.condF rfl BoF ?_) | apply TL.block | apply TL.endB | apply TL.exit rfl | apply TL.exitOut rfl | apply TL.ret | apply TL.skip | apply TL.nil | apply loopK.exit rfl | apply loopK.ret | apply loopK.exitOut rfl))
    refine RX.x (OpR.lenMap (k := 3) (e := 154) (by kernel_rfl) rfl rfl rfl) rfl ?_
    ((repeat (first | (apply RX.kN; refine RX.x OpA rfl ?_) | (apply RX.kG; first | refine RX.y rfl rfl rfl GdA OpA ?_ | refine RX.n rfl rfl rfl GdA rfl rfl ?_ | refine RX.nU rfl rfl rfl rfl rfl ?_ | refine RX.nS rfl rfl rfl GdA rfl ?_))); (try apply RX.nil _ (by kernel_rfl)); repeat (first | apply TL.seq | ((first | apply TL.pl | apply TL.dr _ (by kernel_rfl)); (repeat (first | (apply RX.kN; refine RX.x OpA rfl ?_) | (apply RX.kG; first | refine RX.y rfl rfl rfl GdA OpA ?_ | refine RX.n rfl rfl rfl GdA rfl rfl ?_ | refine RX.nU rfl rfl rfl rfl rfl ?_ | refine RX.nS rfl rfl rfl GdA rfl ?_))); (try apply RX.nil _ (by kernel_rfl))) | (apply TL.kC; first | refine TL.condT rfl DecT ?_ | refine TL.condF rfl DecF ?_ | refine TL.condT rfl BoT ?_ | refine TL.condF rfl BoF ?_) | apply TL.block | apply TL.endB | apply TL.exit rfl | apply TL.exitOut rfl | apply TL.ret | apply TL.skip | apply TL.nil | apply loopK.exit rfl | apply loopK.ret | apply loopK.exitOut rfl))
    refine retK.vp (fun i => i) (vBool ?_) LeA
    by_cases hd : r.Nodup
    · rw [dT hd]
      exact dT (by have := h4.2 hd; omega)
    · rw [dF hd]
      exact dF (fun e => hd (h4.1 (by omega)))
def rArc (l : List PArc) (a : Int) : PArc := l.getD a.toNat ⟨0, 0, 0, 0, 0⟩
/-- Whether arcs go on from one another. -/
def chainB (l : List PArc) : Int → List Int → Bool
  | _, [] => true
  | at_, a :: r => if (rArc l a).fr = at_ then chainB l (rArc l a).dt r else false
theorem ask3_s (s : List Int) (l : List PArc) (r : List Int) (hl : r.length ≤ 1000000) (_hll : l.length ≤ 1000000) (h0 : 0 < r.length) (hin : ∀ a ∈ r, 0 ≤ a ∧ a < (l.length : Int)) : Spec Try.prog 126 [.p 1003 0, .p 1004 0] (hI s l ++ hR r ++ [(1003, cI s l), (1004, cR r)]) (bv (chainB l (rArc l (r.getD (r.length - 1) 0)).dt r)) [(1003, cI s l), (1004, cR r)] := by
  obtain ⟨z, hz⟩ := at_ (l := r) (k := r.length - 1) (by omega)
  have hzb := hin z (List.mem_of_getElem? hz)
  have e1 : r.getD (r.length - 1) 0 = z := getD_at hz
  obtain ⟨az, haz⟩ := at_ (l := l) (k := z.toNat) (by omega)
  have e2 : rArc l z = az := getD_at haz
  rw [e1, e2]
  refine Spec.mk [1000, 1001, 1002, 1003, 1004] Try.call126 Try.func126 Try.ntmps126 Try.results126 rfl (by kernel_rfl) (by kernel_rfl) ?_
  (repeat (first | apply TL.seq | ((first | apply TL.pl | apply TL.dr _ (by kernel_rfl)); (repeat (first | (apply RX.kN; refine RX.x OpA rfl ?_) | (apply RX.kG; first | refine RX.y rfl rfl rfl GdA OpA ?_ | refine RX.n rfl rfl rfl GdA rfl rfl ?_ | refine RX.nU rfl rfl rfl rfl rfl ?_ | refine RX.nS rfl rfl rfl GdA rfl ?_))); (try apply RX.nil _ (by kernel_rfl))) | (apply TL.kC; first | refine TL.condT rfl DecT ?_ | refine TL.condF rfl DecF ?_ | refine TL.condT rfl BoT ?_ | refine TL.condF rfl BoF ?_) | apply TL.block | apply TL.endB | apply TL.exit rfl | apply TL.exitOut rfl | apply TL.ret | apply TL.skip | apply TL.nil | apply loopK.exit rfl | apply loopK.ret | apply loopK.exitOut rfl))
  rw [show r.getD ((r.length : Int) - 1).toNat eInt.zero = z by rw [show ((r.length : Int) - 1).toNat = r.length - 1 by omega]; exact getD_at hz]
  ((repeat (first | (apply RX.kN; refine RX.x OpA rfl ?_) | (apply RX.kG; first | refine RX.y rfl rfl rfl GdA OpA ?_ | refine RX.n rfl rfl rfl GdA rfl rfl ?_ | refine RX.nU rfl rfl rfl rfl rfl ?_ | refine RX.nS rfl rfl rfl GdA rfl ?_))); (try apply RX.nil _ (by kernel_rfl)); repeat (first | apply TL.seq | ((first | apply TL.pl | apply TL.dr _ (by kernel_rfl)); (repeat (first | (apply RX.kN; refine RX.x OpA rfl ?_) | (apply RX.kG; first | refine RX.y rfl rfl rfl GdA OpA ?_ | refine RX.n rfl rfl rfl GdA rfl rfl ?_ | refine RX.nU rfl rfl rfl rfl rfl ?_ | refine RX.nS rfl rfl rfl GdA rfl ?_))); (try apply RX.nil _ (by kernel_rfl))) | (apply TL.kC; first | refine TL.condT rfl DecT ?_ | refine TL.condF rfl DecF ?_ | refine TL.condT rfl BoT ?_ | refine TL.condF rfl BoF ?_) | apply TL.block | apply TL.endB | apply TL.exit rfl | apply TL.exitOut rfl | apply TL.ret | apply TL.skip | apply TL.nil | apply loopK.exit rfl | apply loopK.ret | apply loopK.exitOut rfl))
  refine TL.loop (ρ := fun i => i) (X := Nat × Int) (fun x => ⟨[(0, .p 1003 0), (1, .p 1004 0), (3, iv x.2), (17, .a 1002 r.length), (18, iv r.length), (19, iv x.1)], hI s l ++ hR r ++ [(1003, cI s l), (1004, cR r)]⟩) (fun x => x.1 ≤ r.length ∧ chainB l az.dt r = chainB l x.2 (r.drop x.1)) (fun x => r.length - x.1) (0, az.dt) ⟨by omega, rfl⟩ LeI ?_
  rintro ⟨k, u⟩ ⟨hk, hch⟩
  dsimp only at hk hch ⊢
  by_cases hlt : k < r.length
  · obtain ⟨a, ha⟩ := at_ hlt
    have hab := hin a (List.mem_of_getElem? ha)
    obtain ⟨q, hq⟩ := at_ (l := l) (k := a.toNat) (by omega)
    have e3 : rArc l a = q := getD_at hq
    have hd : r.drop k = a :: r.drop (k + 1) := by
      obtain ⟨h1, h2⟩ := List.getElem?_eq_some_iff.1 ha
      rw [List.drop_eq_getElem_cons h1, h2]
    rw [hd, chainB, e3] at hch
    by_cases hfr : q.fr = u
    · rw [if_pos hfr] at hch
      have hne : ¬ (q.fr ≠ u) := fun h => h hfr
      (repeat (first | apply TL.seq | ((first | apply TL.pl | apply TL.dr _ (by kernel_rfl)); (repeat (first | (apply RX.kN; refine RX.x OpA rfl ?_) | (apply RX.kG; first | refine RX.y rfl rfl rfl GdA OpA ?_ | refine RX.n rfl rfl rfl GdA rfl rfl ?_ | refine RX.nU rfl rfl rfl rfl rfl ?_ | refine RX.nS rfl rfl rfl GdA rfl ?_))); (try apply RX.nil _ (by kernel_rfl))) | (apply TL.kC; first | refine TL.condT rfl DecT ?_ | refine TL.condF rfl DecF ?_ | refine TL.condT rfl BoT ?_ | refine TL.condF rfl BoF ?_) | apply TL.block | apply TL.endB | apply TL.exit rfl | apply TL.exitOut rfl | apply TL.ret | apply TL.skip | apply TL.nil | apply loopK.exit rfl | apply loopK.ret | apply loopK.exitOut rfl))
      exact loopK.normal ⟨(k + 1, q.dt), fun i => i, ⟨hlt, hch⟩, by dsimp only; omega, LeI⟩
    · rw [if_neg hfr] at hch
      rw [hch]
      (repeat (first | apply TL.seq | ((first | apply TL.pl | apply TL.dr _ (by kernel_rfl)); (repeat (first | (apply RX.kN; refine RX.x OpA rfl ?_) | (apply RX.kG; first | refine RX.y rfl rfl rfl GdA OpA ?_ | refine RX.n rfl rfl rfl GdA rfl rfl ?_ | refine RX.nU rfl rfl rfl rfl rfl ?_ | refine RX.nS rfl rfl rfl GdA rfl ?_))); (try apply RX.nil _ (by kernel_rfl))) | (apply TL.kC; first | refine TL.condT rfl DecT ?_ | refine TL.condF rfl DecF ?_ | refine TL.condT rfl BoT ?_ | refine TL.condF rfl BoF ?_) | apply TL.block | apply TL.endB | apply TL.exit rfl | apply TL.exitOut rfl | apply TL.ret | apply TL.skip | apply TL.nil | apply loopK.exit rfl | apply loopK.ret | apply loopK.exitOut rfl))
      exact retK.vp (fun i => i) rfl LeA
  · obtain rfl : k = r.length := by omega
    rw [List.drop_length, chainB] at hch
    rw [hch]
    (repeat (first | apply TL.seq | ((first | apply TL.pl | apply TL.dr _ (by kernel_rfl)); (repeat (first | (apply RX.kN; refine RX.x OpA rfl ?_) | (apply RX.kG; first | refine RX.y rfl rfl rfl GdA OpA ?_ | refine RX.n rfl rfl rfl GdA rfl rfl ?_ | refine RX.nU rfl rfl rfl rfl rfl ?_ | refine RX.nS rfl rfl rfl GdA rfl ?_))); (try apply RX.nil _ (by kernel_rfl))) | (apply TL.kC; first | refine TL.condT rfl DecT ?_ | refine TL.condF rfl DecF ?_ | refine TL.condT rfl BoT ?_ | refine TL.condF rfl BoF ?_) | apply TL.block | apply TL.endB | apply TL.exit rfl | apply TL.exitOut rfl | apply TL.ret | apply TL.skip | apply TL.nil | apply loopK.exit rfl | apply loopK.ret | apply loopK.exitOut rfl))
    exact retK.vp (fun i => i) rfl LeA
def infB (l : List PArc) (a : Int) : Bool := decide ((rArc l a).ca ≠ 4611686018427387904)
theorem ask41_s (s : List Int) (l : List PArc) (a : Int) (_hll : l.length ≤ 1000000) (hin : 0 ≤ a ∧ a < (l.length : Int)) : Spec Try.prog 129 [iv a, .p 1003 0] (hI s l ++ [(1003, cI s l)]) (bv (infB l a)) [(1003, cI s l)] := by
  obtain ⟨z, hz⟩ := at_ (l := l) (k := a.toNat) (by omega)
  have e2 : rArc l a = z := getD_at hz
  unfold infB
  rw [e2]
  refine Spec.mk [1000, 1001, 1003] Try.call129 Try.func129 Try.ntmps129 Try.results129 rfl (by kernel_rfl) (by kernel_rfl) ?_
  (repeat (first | apply TL.seq | ((first | apply TL.pl | apply TL.dr _ (by kernel_rfl)); (repeat (first | (apply RX.kN; refine RX.x OpA rfl ?_) | (apply RX.kG; first | refine RX.y rfl rfl rfl GdA OpA ?_ | refine RX.n rfl rfl rfl GdA rfl rfl ?_ | refine RX.nU rfl rfl rfl rfl rfl ?_ | refine RX.nS rfl rfl rfl GdA rfl ?_))); (try apply RX.nil _ (by kernel_rfl))) | (apply TL.kC; first | refine TL.condT rfl DecT ?_ | refine TL.condF rfl DecF ?_ | refine TL.condT rfl BoT ?_ | refine TL.condF rfl BoF ?_) | apply TL.block | apply TL.endB | apply TL.exit rfl | apply TL.exitOut rfl | apply TL.ret | apply TL.skip | apply TL.nil | apply loopK.exit rfl | apply loopK.ret | apply loopK.exitOut rfl))
  exact retK.vp (fun i => i) rfl LeA
theorem ask4_s (s : List Int) (l : List PArc) (r : List Int) (hl : r.length ≤ 1000000) (hll : l.length ≤ 1000000) (hin : ∀ a ∈ r, 0 ≤ a ∧ a < (l.length : Int)) : Spec Try.prog 127 [.p 1004 0, .p 1003 0] (hI s l ++ hR r ++ [(1003, cI s l), (1004, cR r)]) (bv (!r.any (infB l))) [(1003, cI s l), (1004, cR r)] := by
  have pc := containsFunc_s s l r 129 (infB l) (by omega) (fun a h => ask41_s s l a hll (hin a h))
  refine Spec.mk [1000, 1001, 1002, 1003, 1004] Try.call127 Try.func127 Try.ntmps127 Try.results127 rfl (by kernel_rfl) (by kernel_rfl) ?_
  (repeat (first | apply TL.seq | ((first | apply TL.pl | apply TL.dr _ (by kernel_rfl)); (repeat (first | (apply RX.kN; refine RX.x OpA rfl ?_) | (apply RX.kG; first | refine RX.y rfl rfl rfl GdA OpA ?_ | refine RX.n rfl rfl rfl GdA rfl rfl ?_ | refine RX.nU rfl rfl rfl rfl rfl ?_ | refine RX.nS rfl rfl rfl GdA rfl ?_))); (try apply RX.nil _ (by kernel_rfl))) | (apply TL.kC; first | refine TL.condT rfl DecT ?_ | refine TL.condF rfl DecF ?_ | refine TL.condT rfl BoT ?_ | refine TL.condF rfl BoF ?_) | apply TL.block | apply TL.endB | apply TL.exit rfl | apply TL.exitOut rfl | apply TL.ret | apply TL.skip | apply TL.nil | apply loopK.exit rfl | apply loopK.ret | apply loopK.exitOut rfl))
  (first | refine RX.x (OpR.callP (pc) (sg []) LeA (bv (r.any (infB l))) [(1003, cI s l)]) rfl ?_ | refine RX.y rfl rfl rfl GdA (OpR.callP (pc) (sg []) LeA (bv (r.any (infB l))) [(1003, cI s l)]) ?_); ((repeat (first | (apply RX.kN; refine RX.x OpA rfl ?_) | (apply RX.kG; first | refine RX.y rfl rfl rfl GdA OpA ?_ | refine RX.n rfl rfl rfl GdA rfl rfl ?_ | refine RX.nU rfl rfl rfl rfl rfl ?_ | refine RX.nS rfl rfl rfl GdA rfl ?_))); (try apply RX.nil _ (by kernel_rfl)); repeat (first | apply TL.seq | ((first | apply TL.pl | apply TL.dr _ (by kernel_rfl)); (repeat (first | (apply RX.kN; refine RX.x OpA rfl ?_) | (apply RX.kG; first | refine RX.y rfl rfl rfl GdA OpA ?_ | refine RX.n rfl rfl rfl GdA rfl rfl ?_ | refine RX.nU rfl rfl rfl rfl rfl ?_ | refine RX.nS rfl rfl rfl GdA rfl ?_))); (try apply RX.nil _ (by kernel_rfl))) | (apply TL.kC; first | refine TL.condT rfl DecT ?_ | refine TL.condF rfl DecF ?_ | refine TL.condT rfl BoT ?_ | refine TL.condF rfl BoF ?_) | apply TL.block | apply TL.endB | apply TL.exit rfl | apply TL.exitOut rfl | apply TL.ret | apply TL.skip | apply TL.nil | apply loopK.exit rfl | apply loopK.ret | apply loopK.exitOut rfl))
  exact retK.vp (fun i => i) rfl LeA
/-- What arcs cost. -/
def sumA (l : List PArc) : List Int → Int := fun r => r.foldl (fun w a => if 0 ≤ a ∧ a < (l.length : Int) then w + (rArc l a).co else w) 0
theorem sumA_snoc (l : List PArc) (r : List Int) (a : Int) : sumA l (r ++ [a]) = if 0 ≤ a ∧ a < (l.length : Int) then sumA l r + (rArc l a).co else sumA l r := by simp [sumA]
theorem rsum_s (s : List Int) (l : List PArc) (r : List Int) (hl : r.length ≤ 1000000) (_hll : l.length ≤ 1000000) (hc : ∀ a ∈ l, -9223372036854775808 ≤ a.co ∧ a.co ≤ 9223372036854775807) : Spec Try.prog 44 [vI s l, .a 1002 r.length] (hI s l ++ hR r) (wd (sumA l r)) [] := by
  refine Spec.mk [] Try.call44 Try.func44 Try.ntmps44 Try.results44 rfl (by kernel_rfl) (by kernel_rfl) ?_
  (repeat (first | apply TL.seq | ((first | apply TL.pl | apply TL.dr _ (by kernel_rfl)); (repeat (first | (apply RX.kN; refine RX.x OpA rfl ?_) | (apply RX.kG; first | refine RX.y rfl rfl rfl GdA OpA ?_ | refine RX.n rfl rfl rfl GdA rfl rfl ?_ | refine RX.nU rfl rfl rfl rfl rfl ?_ | refine RX.nS rfl rfl rfl GdA rfl ?_))); (try apply RX.nil _ (by kernel_rfl))) | (apply TL.kC; first | refine TL.condT rfl DecT ?_ | refine TL.condF rfl DecF ?_ | refine TL.condT rfl BoT ?_ | refine TL.condF rfl BoF ?_) | apply TL.block | apply TL.endB | apply TL.exit rfl | apply TL.exitOut rfl | apply TL.ret | apply TL.skip | apply TL.nil | apply loopK.exit rfl | apply loopK.ret | apply loopK.exitOut rfl))
  refine TL.loop (ρ := fun i => i) (X := Nat) (fun k => ⟨[(2, .p 2 0), (4, .p 4 0), (5, .p 5 0), (8, .a 1002 r.length), (9, iv r.length), (10, iv k)], hI s l ++ hR r ++ [(2, cI s l), (4, cW 0), (5, cW (sumA l (r.take k)))]⟩) (fun k => k ≤ r.length) (fun k => r.length - k) 0 (by omega) LeI ?_
  intro k hk
  by_cases hlt : k < r.length
  · obtain ⟨a, ha⟩ := at_ hlt
    have hst : sumA l (r.take (k + 1)) = if 0 ≤ a ∧ a < (l.length : Int) then sumA l (r.take k) + (rArc l a).co else sumA l (r.take k) := by rw [take_snoc ha, sumA_snoc]
    by_cases h1 : 0 ≤ a
    · by_cases h2 : a < (l.length : Int)
      · obtain ⟨z, hz⟩ := at_ (l := l) (k := a.toNat) (by omega)
        have e2 : rArc l a = z := getD_at hz
        have hzc := hc z (List.mem_of_getElem? hz)
        rw [if_pos ⟨h1, h2⟩, e2] at hst
        (repeat (first | apply TL.seq | ((first | apply TL.pl | apply TL.dr _ (by kernel_rfl)); (repeat (first | (apply RX.kN; refine RX.x OpA rfl ?_) | (apply RX.kG; first | refine RX.y rfl rfl rfl GdA OpA ?_ | refine RX.n rfl rfl rfl GdA rfl rfl ?_ | refine RX.nU rfl rfl rfl rfl rfl ?_ | refine RX.nS rfl rfl rfl GdA rfl ?_))); (try apply RX.nil _ (by kernel_rfl))) | (apply TL.kC; first | refine TL.condT rfl DecT ?_ | refine TL.condF rfl DecF ?_ | refine TL.condT rfl BoT ?_ | refine TL.condF rfl BoF ?_) | apply TL.block | apply TL.endB | apply TL.exit rfl | apply TL.exitOut rfl | apply TL.ret | apply TL.skip | apply TL.nil | apply loopK.exit rfl | apply loopK.ret | apply loopK.exitOut rfl))
        (first | refine RX.x (OpR.callA (of_s z.co hzc.1 hzc.2) (sg []) LeA) rfl ?_ | refine RX.y rfl rfl rfl GdA (OpR.callA (of_s z.co hzc.1 hzc.2) (sg []) LeA) ?_); ((repeat (first | (apply RX.kN; refine RX.x OpA rfl ?_) | (apply RX.kG; first | refine RX.y rfl rfl rfl GdA OpA ?_ | refine RX.n rfl rfl rfl GdA rfl rfl ?_ | refine RX.nU rfl rfl rfl rfl rfl ?_ | refine RX.nS rfl rfl rfl GdA rfl ?_))); (try apply RX.nil _ (by kernel_rfl)); repeat (first | apply TL.seq | ((first | apply TL.pl | apply TL.dr _ (by kernel_rfl)); (repeat (first | (apply RX.kN; refine RX.x OpA rfl ?_) | (apply RX.kG; first | refine RX.y rfl rfl rfl GdA OpA ?_ | refine RX.n rfl rfl rfl GdA rfl rfl ?_ | refine RX.nU rfl rfl rfl rfl rfl ?_ | refine RX.nS rfl rfl rfl GdA rfl ?_))); (try apply RX.nil _ (by kernel_rfl))) | (apply TL.kC; first | refine TL.condT rfl DecT ?_ | refine TL.condF rfl DecF ?_ | refine TL.condT rfl BoT ?_ | refine TL.condF rfl BoF ?_) | apply TL.block | apply TL.endB | apply TL.exit rfl | apply TL.exitOut rfl | apply TL.ret | apply TL.skip | apply TL.nil | apply loopK.exit rfl | apply loopK.ret | apply loopK.exitOut rfl))
        (first | refine RX.x (OpR.callA (plus_s (sumA l (r.take k)) z.co) (sg []) LeA) rfl ?_ | refine RX.y rfl rfl rfl GdA (OpR.callA (plus_s (sumA l (r.take k)) z.co) (sg []) LeA) ?_); ((repeat (first | (apply RX.kN; refine RX.x OpA rfl ?_) | (apply RX.kG; first | refine RX.y rfl rfl rfl GdA OpA ?_ | refine RX.n rfl rfl rfl GdA rfl rfl ?_ | refine RX.nU rfl rfl rfl rfl rfl ?_ | refine RX.nS rfl rfl rfl GdA rfl ?_))); (try apply RX.nil _ (by kernel_rfl)); repeat (first | apply TL.seq | ((first | apply TL.pl | apply TL.dr _ (by kernel_rfl)); (repeat (first | (apply RX.kN; refine RX.x OpA rfl ?_) | (apply RX.kG; first | refine RX.y rfl rfl rfl GdA OpA ?_ | refine RX.n rfl rfl rfl GdA rfl rfl ?_ | refine RX.nU rfl rfl rfl rfl rfl ?_ | refine RX.nS rfl rfl rfl GdA rfl ?_))); (try apply RX.nil _ (by kernel_rfl))) | (apply TL.kC; first | refine TL.condT rfl DecT ?_ | refine TL.condF rfl DecF ?_ | refine TL.condT rfl BoT ?_ | refine TL.condF rfl BoF ?_) | apply TL.block | apply TL.endB | apply TL.exit rfl | apply TL.exitOut rfl | apply TL.ret | apply TL.skip | apply TL.nil | apply loopK.exit rfl | apply loopK.ret | apply loopK.exitOut rfl))
        exact loopK.normal ⟨k + 1, fun i => i, hlt, by omega, by rw [hst]; exact LeI⟩
      · rw [if_neg (fun h => h2 h.2)] at hst
        (repeat (first | apply TL.seq | ((first | apply TL.pl | apply TL.dr _ (by kernel_rfl)); (repeat (first | (apply RX.kN; refine RX.x OpA rfl ?_) | (apply RX.kG; first | refine RX.y rfl rfl rfl GdA OpA ?_ | refine RX.n rfl rfl rfl GdA rfl rfl ?_ | refine RX.nU rfl rfl rfl rfl rfl ?_ | refine RX.nS rfl rfl rfl GdA rfl ?_))); (try apply RX.nil _ (by kernel_rfl))) | (apply TL.kC; first | refine TL.condT rfl DecT ?_ | refine TL.condF rfl DecF ?_ | refine TL.condT rfl BoT ?_ | refine TL.condF rfl BoF ?_) | apply TL.block | apply TL.endB | apply TL.exit rfl | apply TL.exitOut rfl | apply TL.ret | apply TL.skip | apply TL.nil | apply loopK.exit rfl | apply loopK.ret | apply loopK.exitOut rfl))
        exact loopK.normal ⟨k + 1, fun i => i, hlt, by omega, by rw [hst]; exact LeI⟩
    · rw [if_neg (fun h => h1 h.1)] at hst
      (repeat (first | apply TL.seq | ((first | apply TL.pl | apply TL.dr _ (by kernel_rfl)); (repeat (first | (apply RX.kN; refine RX.x OpA rfl ?_) | (apply RX.kG; first | refine RX.y rfl rfl rfl GdA OpA ?_ | refine RX.n rfl rfl rfl GdA rfl rfl ?_ | refine RX.nU rfl rfl rfl rfl rfl ?_ | refine RX.nS rfl rfl rfl GdA rfl ?_))); (try apply RX.nil _ (by kernel_rfl))) | (apply TL.kC; first | refine TL.condT rfl DecT ?_ | refine TL.condF rfl DecF ?_ | refine TL.condT rfl BoT ?_ | refine TL.condF rfl BoF ?_) | apply TL.block | apply TL.endB | apply TL.exit rfl | apply TL.exitOut rfl | apply TL.ret | apply TL.skip | apply TL.nil | apply loopK.exit rfl | apply loopK.ret | apply loopK.exitOut rfl))
      exact loopK.normal ⟨k + 1, fun i => i, hlt, by omega, by rw [hst]; exact LeI⟩
  · obtain rfl : k = r.length := by omega
    rw [List.take_length]
    (repeat (first | apply TL.seq | ((first | apply TL.pl | apply TL.dr _ (by kernel_rfl)); (repeat (first | (apply RX.kN; refine RX.x OpA rfl ?_) | (apply RX.kG; first | refine RX.y rfl rfl rfl GdA OpA ?_ | refine RX.n rfl rfl rfl GdA rfl rfl ?_ | refine RX.nU rfl rfl rfl rfl rfl ?_ | refine RX.nS rfl rfl rfl GdA rfl ?_))); (try apply RX.nil _ (by kernel_rfl))) | (apply TL.kC; first | refine TL.condT rfl DecT ?_ | refine TL.condF rfl DecF ?_ | refine TL.condT rfl BoT ?_ | refine TL.condF rfl BoF ?_) | apply TL.block | apply TL.endB | apply TL.exit rfl | apply TL.exitOut rfl | apply TL.ret | apply TL.skip | apply TL.nil | apply loopK.exit rfl | apply loopK.ret | apply loopK.exitOut rfl))
    exact retK.ag (fun i => i) rfl LeA
theorem ask5_s (s : List Int) (l : List PArc) (r : List Int) (hl : r.length ≤ 1000000) (hll : l.length ≤ 1000000) (hc : ∀ a ∈ l, -9223372036854775808 ≤ a.co ∧ a.co ≤ 9223372036854775807) : Spec Try.prog 130 [.p 1003 0, .p 1004 0] (hI s l ++ hR r ++ [(1003, cI s l), (1004, cR r)]) (bv (decide (cmpI (cn (sumA l r)) (cn 0) < 0))) [(1003, cI s l), (1004, cR r)] := by
  refine Spec.mk [1000, 1001, 1002, 1003, 1004] Try.call130 Try.func130 Try.ntmps130 Try.results130 rfl (by kernel_rfl) (by kernel_rfl) ?_
  (repeat (first | apply TL.seq | ((first | apply TL.pl | apply TL.dr _ (by kernel_rfl)); (repeat (first | (apply RX.kN; refine RX.x OpA rfl ?_) | (apply RX.kG; first | refine RX.y rfl rfl rfl GdA OpA ?_ | refine RX.n rfl rfl rfl GdA rfl rfl ?_ | refine RX.nU rfl rfl rfl rfl rfl ?_ | refine RX.nS rfl rfl rfl GdA rfl ?_))); (try apply RX.nil _ (by kernel_rfl))) | (apply TL.kC; first | refine TL.condT rfl DecT ?_ | refine TL.condF rfl DecF ?_ | refine TL.condT rfl BoT ?_ | refine TL.condF rfl BoF ?_) | apply TL.block | apply TL.endB | apply TL.exit rfl | apply TL.exitOut rfl | apply TL.ret | apply TL.skip | apply TL.nil | apply loopK.exit rfl | apply loopK.ret | apply loopK.exitOut rfl))
  (first | refine RX.x (OpR.callA (rsum_s s l r hl hll hc) (sg []) LeA) rfl ?_ | refine RX.y rfl rfl rfl GdA (OpR.callA (rsum_s s l r hl hll hc) (sg []) LeA) ?_); ((repeat (first | (apply RX.kN; refine RX.x OpA rfl ?_) | (apply RX.kG; first | refine RX.y rfl rfl rfl GdA OpA ?_ | refine RX.n rfl rfl rfl GdA rfl rfl ?_ | refine RX.nU rfl rfl rfl rfl rfl ?_ | refine RX.nS rfl rfl rfl GdA rfl ?_))); (try apply RX.nil _ (by kernel_rfl)); repeat (first | apply TL.seq | ((first | apply TL.pl | apply TL.dr _ (by kernel_rfl)); (repeat (first | (apply RX.kN; refine RX.x OpA rfl ?_) | (apply RX.kG; first | refine RX.y rfl rfl rfl GdA OpA ?_ | refine RX.n rfl rfl rfl GdA rfl rfl ?_ | refine RX.nU rfl rfl rfl rfl rfl ?_ | refine RX.nS rfl rfl rfl GdA rfl ?_))); (try apply RX.nil _ (by kernel_rfl))) | (apply TL.kC; first | refine TL.condT rfl DecT ?_ | refine TL.condF rfl DecF ?_ | refine TL.condT rfl BoT ?_ | refine TL.condF rfl BoF ?_) | apply TL.block | apply TL.endB | apply TL.exit rfl | apply TL.exitOut rfl | apply TL.ret | apply TL.skip | apply TL.nil | apply loopK.exit rfl | apply loopK.ret | apply loopK.exitOut rfl))
  (first | refine RX.x (OpR.callA (compare_s (sumA l r) 0) (sg []) LeA) rfl ?_ | refine RX.y rfl rfl rfl GdA (OpR.callA (compare_s (sumA l r) 0) (sg []) LeA) ?_); ((repeat (first | (apply RX.kN; refine RX.x OpA rfl ?_) | (apply RX.kG; first | refine RX.y rfl rfl rfl GdA OpA ?_ | refine RX.n rfl rfl rfl GdA rfl rfl ?_ | refine RX.nU rfl rfl rfl rfl rfl ?_ | refine RX.nS rfl rfl rfl GdA rfl ?_))); (try apply RX.nil _ (by kernel_rfl)); repeat (first | apply TL.seq | ((first | apply TL.pl | apply TL.dr _ (by kernel_rfl)); (repeat (first | (apply RX.kN; refine RX.x OpA rfl ?_) | (apply RX.kG; first | refine RX.y rfl rfl rfl GdA OpA ?_ | refine RX.n rfl rfl rfl GdA rfl rfl ?_ | refine RX.nU rfl rfl rfl rfl rfl ?_ | refine RX.nS rfl rfl rfl GdA rfl ?_))); (try apply RX.nil _ (by kernel_rfl))) | (apply TL.kC; first | refine TL.condT rfl DecT ?_ | refine TL.condF rfl DecF ?_ | refine TL.condT rfl BoT ?_ | refine TL.condF rfl BoF ?_) | apply TL.block | apply TL.endB | apply TL.exit rfl | apply TL.exitOut rfl | apply TL.ret | apply TL.skip | apply TL.nil | apply loopK.exit rfl | apply loopK.ret | apply loopK.exitOut rfl))
  exact retK.vp (fun i => i) rfl LeA
end Go.Proofs.Ytiboffhdabeiiaa
