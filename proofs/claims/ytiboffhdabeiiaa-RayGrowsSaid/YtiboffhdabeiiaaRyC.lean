/-
  ray: Along; chapter 12: Round, its example; by symbolic steps.
-/
import Derived.Test.YtiboffhdabeiiaaRyB
import Derived.Test.YtiboffhdabeiiaaFlJ
namespace Go.Proofs.Ytiboffhdabeiiaa
open Go Go.RowKit
theorem mulB {a b A B : Int} (h1 : -A ≤ a ∧ a ≤ A) (h2 : -B ≤ b ∧ b ≤ B) : -(A * B) ≤ a * b ∧ a * b ≤ A * B := by
  have k1 : a.natAbs ≤ A.toNat := by omega
  have k2 : b.natAbs ≤ B.toNat := by omega
  have k3 := Nat.mul_le_mul k1 k2
  rw [← Int.natAbs_mul] at k3
  have k4 : ((A.toNat * B.toNat : Nat) : Int) = A * B := by
    rw [Int.natCast_mul, Int.toNat_of_nonneg (by omega), Int.toNat_of_nonneg (by omega)]
  omega
def alongL (x : List Int) (r : List Int) (n : Int) : List Int := r.foldl (fun x a => x.set a.toNat (x.getD a.toNat 0 + n)) x
theorem alongL_snoc (x r : List Int) (a n : Int) : alongL x (r ++ [a]) n = (alongL x r n).set a.toNat ((alongL x r n).getD a.toNat 0 + n) := by simp [alongL]
theorem alongL_len (x r : List Int) (n : Int) : (alongL x r n).length = x.length := by
  unfold alongL
  induction r generalizing x with
  | nil => rfl
  | cons a r ih => rw [List.foldl_cons, ih, List.length_set]
theorem along_yes (s : List Int) (l : List PArc) (x r : List Int) (n : Int) (hx : x.length ≤ 1000000) (hl : r.length ≤ 1000000) (hn : -9223372036854775808 ≤ n ∧ n ≤ 9223372036854775807) (hin : ∀ a ∈ r, 0 ≤ a ∧ a < (x.length : Int)) (hb : ∀ (k : Nat), k ≤ r.length → ∀ v ∈ alongL x (r.take k) n, -9223372036854775808 ≤ v ∧ v ≤ 9223372036854775807) :
    Spec Try.prog 41 [vI s l, .a 1003 x.length, .a 1002 r.length, iv n] (hI s l ++ hR r ++ [(1003, .ro eInt x)]) (.tup [.a 2000 x.length, bv true]) [(2000, .own 2 eInt (alongL x r n))] := by
  have nt1 : (!true) = false := rfl
  have pc := clone64_s x (by omega)
  have hlen := fun r => alongL_len x r n
  have e0 : alongL x (r.take 0) n = x := rfl
  refine Spec.mk [] Try.call41 Try.func41 Try.ntmps41 Try.results41 rfl (by kernel_rfl) (by kernel_rfl) ?_
  (repeat (first | apply TL.seq | ((first | apply TL.pl | apply TL.dr _ (by kernel_rfl)); (repeat (first | (apply RX.kN; refine RX.x OpA rfl ?_) | (apply RX.kG; first | refine RX.y rfl rfl rfl GdA OpA ?_ | refine RX.n rfl rfl rfl GdA rfl rfl ?_ | refine RX.nU rfl rfl rfl rfl rfl ?_ | refine RX.nS rfl rfl rfl GdA rfl ?_))); (try apply RX.nil _ (by kernel_rfl))) | (apply TL.kC; first | refine TL.condT rfl DecT ?_ | refine TL.condF rfl DecF ?_ | refine TL.condT rfl BoT ?_ | refine TL.condF rfl BoF ?_) | apply TL.block | apply TL.endB | apply TL.exit rfl | apply TL.exitOut rfl | apply TL.ret | apply TL.skip | apply TL.nil | apply loopK.exit rfl | apply loopK.ret | apply loopK.exitOut rfl))
  refine RX.x (OpR.callP pc (sg [(1000, 1003), (2000, 16)]) LeA (.a 16 _) [(16, .own _ _ _)]) rfl ?_
  ((repeat (first | (apply RX.kN; refine RX.x OpA rfl ?_) | (apply RX.kG; first | refine RX.y rfl rfl rfl GdA OpA ?_ | refine RX.n rfl rfl rfl GdA rfl rfl ?_ | refine RX.nU rfl rfl rfl rfl rfl ?_ | refine RX.nS rfl rfl rfl GdA rfl ?_))); (try apply RX.nil _ (by kernel_rfl)); repeat (first | apply TL.seq | ((first | apply TL.pl | apply TL.dr _ (by kernel_rfl)); (repeat (first | (apply RX.kN; refine RX.x OpA rfl ?_) | (apply RX.kG; first | refine RX.y rfl rfl rfl GdA OpA ?_ | refine RX.n rfl rfl rfl GdA rfl rfl ?_ | refine RX.nU rfl rfl rfl rfl rfl ?_ | refine RX.nS rfl rfl rfl GdA rfl ?_))); (try apply RX.nil _ (by kernel_rfl))) | (apply TL.kC; first | refine TL.condT rfl DecT ?_ | refine TL.condF rfl DecF ?_ | refine TL.condT rfl BoT ?_ | refine TL.condF rfl BoF ?_) | apply TL.block | apply TL.endB | apply TL.exit rfl | apply TL.exitOut rfl | apply TL.ret | apply TL.skip | apply TL.nil | apply loopK.exit rfl | apply loopK.ret | apply loopK.exitOut rfl))
  refine TL.loop (ρ := sg [(3000, 16)]) (X := Nat) (fun k => ⟨[(3, iv n), (10, .a 3000 x.length), (17, .a 1002 r.length), (18, iv r.length), (19, iv k)], hR r ++ [(3000, .own 2 eInt (alongL x (r.take k) n))]⟩) (fun k => k ≤ r.length) (fun k => r.length - k) 0 (by omega) (LeR (sg [(3000, 16)]) (by exact LeSA) (by rw [e0]; exact LeA)) ?_
  intro k hk
  by_cases hlt : k < r.length
  · obtain ⟨a, ha⟩ := at_ hlt
    have hab := hin a (List.mem_of_getElem? ha)
    have hst : alongL x (r.take (k + 1)) n = (alongL x (r.take k) n).set a.toNat ((alongL x (r.take k) n).getD a.toNat 0 + n) := by rw [take_snoc ha, alongL_snoc]
    have hLl := hlen (r.take k)
    have hb1 := hb k hk
    have hb2 := hb (k + 1) hlt
    rw [hst] at hb2
    generalize alongL x (r.take k) n = L at *
    obtain ⟨v, hv⟩ := at_ (l := L) (k := a.toNat) (by omega)
    have hvb := hb1 v (List.mem_of_getElem? hv)
    rw [getD_at hv] at hst hb2
    have hv2 := hb2 (v + n) (List.mem_of_getElem? (List.getElem?_set_self (by omega)))
    have pa := add_s v n hvb.1 hvb.2 hn.1 hn.2
    rw [back_in2 hv2.1 hv2.2] at pa
    (repeat (first | apply TL.seq | ((first | apply TL.pl | apply TL.dr _ (by kernel_rfl)); (repeat (first | (apply RX.kN; refine RX.x OpA rfl ?_) | (apply RX.kG; first | refine RX.y rfl rfl rfl GdA OpA ?_ | refine RX.n rfl rfl rfl GdA rfl rfl ?_ | refine RX.nU rfl rfl rfl rfl rfl ?_ | refine RX.nS rfl rfl rfl GdA rfl ?_))); (try apply RX.nil _ (by kernel_rfl))) | (apply TL.kC; first | refine TL.condT rfl DecT ?_ | refine TL.condF rfl DecF ?_ | refine TL.condT rfl BoT ?_ | refine TL.condF rfl BoF ?_) | apply TL.block | apply TL.endB | apply TL.exit rfl | apply TL.exitOut rfl | apply TL.ret | apply TL.skip | apply TL.nil | apply loopK.exit rfl | apply loopK.ret | apply loopK.exitOut rfl))
    (first | refine RX.x (OpR.callA (pa) (sg []) LeA) rfl ?_ | refine RX.y rfl rfl rfl GdA (OpR.callA (pa) (sg []) LeA) ?_); ((repeat (first | (apply RX.kN; refine RX.x OpA rfl ?_) | (apply RX.kG; first | refine RX.y rfl rfl rfl GdA OpA ?_ | refine RX.n rfl rfl rfl GdA rfl rfl ?_ | refine RX.nU rfl rfl rfl rfl rfl ?_ | refine RX.nS rfl rfl rfl GdA rfl ?_))); (try apply RX.nil _ (by kernel_rfl)); repeat (first | apply TL.seq | ((first | apply TL.pl | apply TL.dr _ (by kernel_rfl)); (repeat (first | (apply RX.kN; refine RX.x OpA rfl ?_) | (apply RX.kG; first | refine RX.y rfl rfl rfl GdA OpA ?_ | refine RX.n rfl rfl rfl GdA rfl rfl ?_ | refine RX.nU rfl rfl rfl rfl rfl ?_ | refine RX.nS rfl rfl rfl GdA rfl ?_))); (try apply RX.nil _ (by kernel_rfl))) | (apply TL.kC; first | refine TL.condT rfl DecT ?_ | refine TL.condF rfl DecF ?_ | refine TL.condT rfl BoT ?_ | refine TL.condF rfl BoF ?_) | apply TL.block | apply TL.endB | apply TL.exit rfl | apply TL.exitOut rfl | apply TL.ret | apply TL.skip | apply TL.nil | apply loopK.exit rfl | apply loopK.ret | apply loopK.exitOut rfl))
    exact loopK.normal ⟨k + 1, fun i => i, hlt, by omega, by rw [hst]; exact LeI⟩
  · obtain rfl : k = r.length := by omega
    rw [List.take_length]
    (repeat (first | apply TL.seq | ((first | apply TL.pl | apply TL.dr _ (by kernel_rfl)); (repeat (first | (apply RX.kN; refine RX.x OpA rfl ?_) | (apply RX.kG; first | refine RX.y rfl rfl rfl GdA OpA ?_ | refine RX.n rfl rfl rfl GdA rfl rfl ?_ | refine RX.nU rfl rfl rfl rfl rfl ?_ | refine RX.nS rfl rfl rfl GdA rfl ?_))); (try apply RX.nil _ (by kernel_rfl))) | (apply TL.kC; first | refine TL.condT rfl DecT ?_ | refine TL.condF rfl DecF ?_ | refine TL.condT rfl BoT ?_ | refine TL.condF rfl BoF ?_) | apply TL.block | apply TL.endB | apply TL.exit rfl | apply TL.exitOut rfl | apply TL.ret | apply TL.skip | apply TL.nil | apply loopK.exit rfl | apply loopK.ret | apply loopK.exitOut rfl))
    exact retK.two (sg [(2000, 3000)]) rfl rfl LeA
theorem along_no (s : List Int) (l : List PArc) (x : List Int) (a n : Int) (hx : x.length ≤ 1000000) (hin : ¬ (0 ≤ a ∧ a < (x.length : Int))) :
    Spec Try.prog 41 [vI s l, .a 1003 x.length, .a 1002 1, iv n] (hI s l ++ hR [a] ++ [(1003, .ro eInt x)]) (.tup [.v (.slice none 0 0), bv false]) [] := by
  have pc := clone64_s x (by omega)
  have key : ∀ (r : List Int), r[0]? = some a → r.length = 1 → Spec Try.prog 41 [vI s l, .a 1003 x.length, .a 1002 r.length, iv n] (hI s l ++ hR r ++ [(1003, .ro eInt x)]) (.tup [.v (.slice none 0 0), bv false]) [] := by
    intro r ha hr
    by_cases h1 : a < 0
    · refine Spec.mk [] Try.call41 Try.func41 Try.ntmps41 Try.results41 rfl (by kernel_rfl) (by kernel_rfl) ?_
      (repeat (first | apply TL.seq | ((first | apply TL.pl | apply TL.dr _ (by kernel_rfl)); (repeat (first | (apply RX.kN; refine RX.x OpA rfl ?_) | (apply RX.kG; first | refine RX.y rfl rfl rfl GdA OpA ?_ | refine RX.n rfl rfl rfl GdA rfl rfl ?_ | refine RX.nU rfl rfl rfl rfl rfl ?_ | refine RX.nS rfl rfl rfl GdA rfl ?_))); (try apply RX.nil _ (by kernel_rfl))) | (apply TL.kC; first | refine TL.condT rfl DecT ?_ | refine TL.condF rfl DecF ?_ | refine TL.condT rfl BoT ?_ | refine TL.condF rfl BoF ?_) | apply TL.block | apply TL.endB | apply TL.exit rfl | apply TL.exitOut rfl | apply TL.ret | apply TL.skip | apply TL.nil | apply loopK.exit rfl | apply loopK.ret | apply loopK.exitOut rfl))
      refine RX.x (OpR.callP pc (sg [(1000, 1003), (2000, 16)]) LeA (.a 16 _) [(16, .own _ _ _)]) rfl ?_
      ((repeat (first | (apply RX.kN; refine RX.x OpA rfl ?_) | (apply RX.kG; first | refine RX.y rfl rfl rfl GdA OpA ?_ | refine RX.n rfl rfl rfl GdA rfl rfl ?_ | refine RX.nU rfl rfl rfl rfl rfl ?_ | refine RX.nS rfl rfl rfl GdA rfl ?_))); (try apply RX.nil _ (by kernel_rfl)); repeat (first | apply TL.seq | ((first | apply TL.pl | apply TL.dr _ (by kernel_rfl)); (repeat (first | (apply RX.kN; refine RX.x OpA rfl ?_) | (apply RX.kG; first | refine RX.y rfl rfl rfl GdA OpA ?_ | refine RX.n rfl rfl rfl GdA rfl rfl ?_ | refine RX.nU rfl rfl rfl rfl rfl ?_ | refine RX.nS rfl rfl rfl GdA rfl ?_))); (try apply RX.nil _ (by kernel_rfl))) | (apply TL.kC; first | refine TL.condT rfl DecT ?_ | refine TL.condF rfl DecF ?_ | refine TL.condT rfl BoT ?_ | refine TL.condF rfl BoF ?_) | apply TL.block | apply TL.endB | apply TL.exit rfl | apply TL.exitOut rfl | apply TL.ret | apply TL.skip | apply TL.nil | apply loopK.exit rfl | apply loopK.ret | apply loopK.exitOut rfl))
      refine TL.loop1 ?_
      (repeat (first | apply TL.seq | ((first | apply TL.pl | apply TL.dr _ (by kernel_rfl)); (repeat (first | (apply RX.kN; refine RX.x OpA rfl ?_) | (apply RX.kG; first | refine RX.y rfl rfl rfl GdA OpA ?_ | refine RX.n rfl rfl rfl GdA rfl rfl ?_ | refine RX.nU rfl rfl rfl rfl rfl ?_ | refine RX.nS rfl rfl rfl GdA rfl ?_))); (try apply RX.nil _ (by kernel_rfl))) | (apply TL.kC; first | refine TL.condT rfl DecT ?_ | refine TL.condF rfl DecF ?_ | refine TL.condT rfl BoT ?_ | refine TL.condF rfl BoF ?_) | apply TL.block | apply TL.endB | apply TL.exit rfl | apply TL.exitOut rfl | apply TL.ret | apply TL.skip | apply TL.nil | apply loopK.exit rfl | apply loopK.ret | apply loopK.exitOut rfl))
      rw [show r.getD (Int.toNat 0) eInt.zero = a from getD_at ha]
      ((repeat (first | (apply RX.kN; refine RX.x OpA rfl ?_) | (apply RX.kG; first | refine RX.y rfl rfl rfl GdA OpA ?_ | refine RX.n rfl rfl rfl GdA rfl rfl ?_ | refine RX.nU rfl rfl rfl rfl rfl ?_ | refine RX.nS rfl rfl rfl GdA rfl ?_))); (try apply RX.nil _ (by kernel_rfl)); repeat (first | apply TL.seq | ((first | apply TL.pl | apply TL.dr _ (by kernel_rfl)); (repeat (first | (apply RX.kN; refine RX.x OpA rfl ?_) | (apply RX.kG; first | refine RX.y rfl rfl rfl GdA OpA ?_ | refine RX.n rfl rfl rfl GdA rfl rfl ?_ | refine RX.nU rfl rfl rfl rfl rfl ?_ | refine RX.nS rfl rfl rfl GdA rfl ?_))); (try apply RX.nil _ (by kernel_rfl))) | (apply TL.kC; first | refine TL.condT rfl DecT ?_ | refine TL.condF rfl DecF ?_ | refine TL.condT rfl BoT ?_ | refine TL.condF rfl BoF ?_) | apply TL.block | apply TL.endB | apply TL.exit rfl | apply TL.exitOut rfl | apply TL.ret | apply TL.skip | apply TL.nil | apply loopK.exit rfl | apply loopK.ret | apply loopK.exitOut rfl))
      exact retK.two (fun i => i) rfl rfl LeA
    · have h2 : (x.length : Int) ≤ a := by omega
      refine Spec.mk [] Try.call41 Try.func41 Try.ntmps41 Try.results41 rfl (by kernel_rfl) (by kernel_rfl) ?_
      (repeat (first | apply TL.seq | ((first | apply TL.pl | apply TL.dr _ (by kernel_rfl)); (repeat (first | (apply RX.kN; refine RX.x OpA rfl ?_) | (apply RX.kG; first | refine RX.y rfl rfl rfl GdA OpA ?_ | refine RX.n rfl rfl rfl GdA rfl rfl ?_ | refine RX.nU rfl rfl rfl rfl rfl ?_ | refine RX.nS rfl rfl rfl GdA rfl ?_))); (try apply RX.nil _ (by kernel_rfl))) | (apply TL.kC; first | refine TL.condT rfl DecT ?_ | refine TL.condF rfl DecF ?_ | refine TL.condT rfl BoT ?_ | refine TL.condF rfl BoF ?_) | apply TL.block | apply TL.endB | apply TL.exit rfl | apply TL.exitOut rfl | apply TL.ret | apply TL.skip | apply TL.nil | apply loopK.exit rfl | apply loopK.ret | apply loopK.exitOut rfl))
      refine RX.x (OpR.callP pc (sg [(1000, 1003), (2000, 16)]) LeA (.a 16 _) [(16, .own _ _ _)]) rfl ?_
      ((repeat (first | (apply RX.kN; refine RX.x OpA rfl ?_) | (apply RX.kG; first | refine RX.y rfl rfl rfl GdA OpA ?_ | refine RX.n rfl rfl rfl GdA rfl rfl ?_ | refine RX.nU rfl rfl rfl rfl rfl ?_ | refine RX.nS rfl rfl rfl GdA rfl ?_))); (try apply RX.nil _ (by kernel_rfl)); repeat (first | apply TL.seq | ((first | apply TL.pl | apply TL.dr _ (by kernel_rfl)); (repeat (first | (apply RX.kN; refine RX.x OpA rfl ?_) | (apply RX.kG; first | refine RX.y rfl rfl rfl GdA OpA ?_ | refine RX.n rfl rfl rfl GdA rfl rfl ?_ | refine RX.nU rfl rfl rfl rfl rfl ?_ | refine RX.nS rfl rfl rfl GdA rfl ?_))); (try apply RX.nil _ (by kernel_rfl))) | (apply TL.kC; first | refine TL.condT rfl DecT ?_ | refine TL.condF rfl DecF ?_ | refine TL.condT rfl BoT ?_ | refine TL.condF rfl BoF ?_) | apply TL.block | apply TL.endB | apply TL.exit rfl | apply TL.exitOut rfl | apply TL.ret | apply TL.skip | apply TL.nil | apply loopK.exit rfl | apply loopK.ret | apply loopK.exitOut rfl))
      refine TL.loop1 ?_
      (repeat (first | apply TL.seq | ((first | apply TL.pl | apply TL.dr _ (by kernel_rfl)); (repeat (first | (apply RX.kN; refine RX.x OpA rfl ?_) | (apply RX.kG; first | refine RX.y rfl rfl rfl GdA OpA ?_ | refine RX.n rfl rfl rfl GdA rfl rfl ?_ | refine RX.nU rfl rfl rfl rfl rfl ?_ | refine RX.nS rfl rfl rfl GdA rfl ?_))); (try apply RX.nil _ (by kernel_rfl))) | (apply TL.kC; first | refine TL.condT rfl DecT ?_ | refine TL.condF rfl DecF ?_ | refine TL.condT rfl BoT ?_ | refine TL.condF rfl BoF ?_) | apply TL.block | apply TL.endB | apply TL.exit rfl | apply TL.exitOut rfl | apply TL.ret | apply TL.skip | apply TL.nil | apply loopK.exit rfl | apply loopK.ret | apply loopK.exitOut rfl))
      rw [show r.getD (Int.toNat 0) eInt.zero = a from getD_at ha]
      ((repeat (first | (apply RX.kN; refine RX.x OpA rfl ?_) | (apply RX.kG; first | refine RX.y rfl rfl rfl GdA OpA ?_ | refine RX.n rfl rfl rfl GdA rfl rfl ?_ | refine RX.nU rfl rfl rfl rfl rfl ?_ | refine RX.nS rfl rfl rfl GdA rfl ?_))); (try apply RX.nil _ (by kernel_rfl)); repeat (first | apply TL.seq | ((first | apply TL.pl | apply TL.dr _ (by kernel_rfl)); (repeat (first | (apply RX.kN; refine RX.x OpA rfl ?_) | (apply RX.kG; first | refine RX.y rfl rfl rfl GdA OpA ?_ | refine RX.n rfl rfl rfl GdA rfl rfl ?_ | refine RX.nU rfl rfl rfl rfl rfl ?_ | refine RX.nS rfl rfl rfl GdA rfl ?_))); (try apply RX.nil _ (by kernel_rfl))) | (apply TL.kC; first | refine TL.condT rfl DecT ?_ | refine TL.condF rfl DecF ?_ | refine TL.condT rfl BoT ?_ | refine TL.condF rfl BoF ?_) | apply TL.block | apply TL.endB | apply TL.exit rfl | apply TL.exitOut rfl | apply TL.ret | apply TL.skip | apply TL.nil | apply loopK.exit rfl | apply loopK.ret | apply loopK.exitOut rfl))
      exact retK.two (fun i => i) rfl rfl LeA
  exact key [a] rfl rfl
def mR (c : List Nat) (N : Nat) : Nat := if 0 < c.length then 1 + c.getD 0 0 % N else 1
def costR (d : List Nat) (k : Nat) : Int := if k < d.length then ((d.getD k 0 : Nat) : Int) % 9 - 6 else 0
def capR (c : List Nat) (k : Nat) : Int := if 1 < c.length ∧ ((c.getD 1 0 : Nat) : Int) % 8 = 0 ∧ k = 0 then 5 else 4611686018427387904
def rArcs (c d : List Nat) (m k : Nat) : List PArc := (List.range k).map fun (j : Nat) => ⟨(j : Int), ((j : Int) + 1) % (m : Int), 0, capR c j, costR d j⟩
theorem rArcs_len (c d : List Nat) (m k : Nat) : (rArcs c d m k).length = k := by simp [rArcs]
theorem rArcs_succ (c d : List Nat) (m k : Nat) : rArcs c d m (k + 1) = rArcs c d m k ++ [⟨k, ((k : Int) + 1) % (m : Int), 0, capR c k, costR d k⟩] := by simp [rArcs, List.range_succ]
def rIdx (b k : Nat) : List Int := (List.range k).map fun (j : Nat) => ((b + j : Nat) : Int)
theorem rIdx_len (b k : Nat) : (rIdx b k).length = k := by simp [rIdx]
theorem rIdx_succ (b k : Nat) : rIdx b (k + 1) = rIdx b k ++ [((b + k : Nat) : Int)] := by simp [rIdx, List.range_succ]
set_option maxHeartbeats 2000000 in
theorem round_s (c d : List Nat) (hc : ∀ x ∈ c, x < 256) (hd : ∀ x ∈ d, x < 256) (h1 : c.length ≤ 9223372036854775807) (h2 : d.length ≤ 9223372036854775807) (m : Nat) (hm : mR c (nOf d) = m) :
    Spec Try.prog 30 [.a 1000 c.length, .a 1001 d.length] [(1000, .ro eByt c), (1001, .ro eByt d)] (.tup [.agg [.a 2000 (instS c d).length, .a 2001 (arcsN c (nOf d) ++ rArcs c d m m).length], .a 2002 m]) [(2000, .own 2 eInt (instS c d)), (2001, .own 44 eArc (arcsN c (nOf d) ++ rArcs c d m m)), (2002, .own 3 eInt (rIdx (arcsN c (nOf d)).length m))] := by
  have hn := nOf_range d
  have hL := arcsN_len c (nOf d)
  have hsl := instS_len c d
  have pI := inst_s c d hc hd h1 h2
  generalize instS c d = s at *
  generalize arcsN c (nOf d) = l at *
  generalize nOf d = N at *
  subst hsl
  refine Spec.mk [] Try.call30 Try.func30 Try.ntmps30 Try.results30 rfl (by kernel_rfl) (by kernel_rfl) ?_
  (repeat (first | apply TL.seq | ((first | apply TL.pl | apply TL.dr _ (by kernel_rfl)); (repeat (first | (apply RX.kN; refine RX.x OpA rfl ?_) | (apply RX.kG; first | refine RX.y rfl rfl rfl GdA OpA ?_ | refine RX.n rfl rfl rfl GdA rfl rfl ?_ | refine RX.nU rfl rfl rfl rfl rfl ?_ | refine RX.nS rfl rfl rfl GdA rfl ?_))); (try apply RX.nil _ (by kernel_rfl))) | (apply TL.kC; first | refine TL.condT rfl DecT ?_ | refine TL.condF rfl DecF ?_ | refine TL.condT rfl BoT ?_ | refine TL.condF rfl BoF ?_) | apply TL.block | apply TL.endB | apply TL.exit rfl | apply TL.exitOut rfl | apply TL.ret | apply TL.skip | apply TL.nil | apply loopK.exit rfl | apply loopK.ret | apply loopK.exitOut rfl))
  refine RX.x (OpR.callP pI (sg [(2000, 15), (2001, 115)]) LeA (.agg [.a 15 _, .a 115 _]) [(15, .own _ _ _), (115, .own _ _ _)]) rfl ?_
  ((repeat (first | (apply RX.kN; refine RX.x OpA rfl ?_) | (apply RX.kG; first | refine RX.y rfl rfl rfl GdA OpA ?_ | refine RX.n rfl rfl rfl GdA rfl rfl ?_ | refine RX.nU rfl rfl rfl rfl rfl ?_ | refine RX.nS rfl rfl rfl GdA rfl ?_))); (try apply RX.nil _ (by kernel_rfl)); repeat (first | apply TL.seq | ((first | apply TL.pl | apply TL.dr _ (by kernel_rfl)); (repeat (first | (apply RX.kN; refine RX.x OpA rfl ?_) | (apply RX.kG; first | refine RX.y rfl rfl rfl GdA OpA ?_ | refine RX.n rfl rfl rfl GdA rfl rfl ?_ | refine RX.nU rfl rfl rfl rfl rfl ?_ | refine RX.nS rfl rfl rfl GdA rfl ?_))); (try apply RX.nil _ (by kernel_rfl))) | (apply TL.kC; first | refine TL.condT rfl DecT ?_ | refine TL.condF rfl DecF ?_ | refine TL.condT rfl BoT ?_ | refine TL.condF rfl BoF ?_) | apply TL.block | apply TL.endB | apply TL.exit rfl | apply TL.exitOut rfl | apply TL.ret | apply TL.skip | apply TL.nil | apply loopK.exit rfl | apply loopK.ret | apply loopK.exitOut rfl))
  refine TL.cut (X := Unit) (fun _ => ⟨[(0, .a 1000 c.length), (1, .a 1001 d.length), (4, .p 4 0), (6, .p 6 0), (8, iv m)], [(1000, .ro eByt c), (1001, .ro eByt d), (15, .own 2 eInt s), (115, .own 44 eArc l), (6, .cells 25 [.a 15 s.length, .a 115 l.length]), (4, .cells 25 [.v (.slice none 0 0), .v (.slice none 0 0)])]⟩) (fun _ => True) ?_ ?_
  · by_cases h0 : 0 < c.length
    · obtain ⟨b, hb⟩ := at_ h0
      have hbb := hc b (List.mem_of_getElem? hb)
      have em : 1 + (b : Int) % (s.length : Int) = (m : Int) := by
        rw [← hm]
        unfold mR
        rw [if_pos h0, getD_at hb]
        push_cast
        rfl
      have hmod1 := Int.emod_nonneg (b : Int) (show (s.length : Int) ≠ 0 by omega)
      have hmod2 := Int.emod_lt_of_pos (b : Int) (show 0 < (s.length : Int) by omega)
      (repeat (first | apply TL.seq | ((first | apply TL.pl | apply TL.dr _ (by kernel_rfl)); (repeat (first | (apply RX.kN; refine RX.x OpA rfl ?_) | (apply RX.kG; first | refine RX.y rfl rfl rfl GdA OpA ?_ | refine RX.n rfl rfl rfl GdA rfl rfl ?_ | refine RX.nU rfl rfl rfl rfl rfl ?_ | refine RX.nS rfl rfl rfl GdA rfl ?_))); (try apply RX.nil _ (by kernel_rfl))) | (apply TL.kC; first | refine TL.condT rfl DecT ?_ | refine TL.condF rfl DecF ?_ | refine TL.condT rfl BoT ?_ | refine TL.condF rfl BoF ?_) | apply TL.block | apply TL.endB | apply TL.exit rfl | apply TL.exitOut rfl | apply TL.ret | apply TL.skip | apply TL.nil | apply loopK.exit rfl | apply loopK.ret | apply loopK.exitOut rfl))
      rw [em]
      ((repeat (first | (apply RX.kN; refine RX.x OpA rfl ?_) | (apply RX.kG; first | refine RX.y rfl rfl rfl GdA OpA ?_ | refine RX.n rfl rfl rfl GdA rfl rfl ?_ | refine RX.nU rfl rfl rfl rfl rfl ?_ | refine RX.nS rfl rfl rfl GdA rfl ?_))); (try apply RX.nil _ (by kernel_rfl)); repeat (first | apply TL.seq | ((first | apply TL.pl | apply TL.dr _ (by kernel_rfl)); (repeat (first | (apply RX.kN; refine RX.x OpA rfl ?_) | (apply RX.kG; first | refine RX.y rfl rfl rfl GdA OpA ?_ | refine RX.n rfl rfl rfl GdA rfl rfl ?_ | refine RX.nU rfl rfl rfl rfl rfl ?_ | refine RX.nS rfl rfl rfl GdA rfl ?_))); (try apply RX.nil _ (by kernel_rfl))) | (apply TL.kC; first | refine TL.condT rfl DecT ?_ | refine TL.condF rfl DecF ?_ | refine TL.condT rfl BoT ?_ | refine TL.condF rfl BoF ?_) | apply TL.block | apply TL.endB | apply TL.exit rfl | apply TL.exitOut rfl | apply TL.ret | apply TL.skip | apply TL.nil | apply loopK.exit rfl | apply loopK.ret | apply loopK.exitOut rfl))
      exact loopK.normal ⟨(), fun i => i, trivial, LeI⟩
    · have em : m = 1 := by rw [← hm]; unfold mR; rw [if_neg h0]
      subst em
      (repeat (first | apply TL.seq | ((first | apply TL.pl | apply TL.dr _ (by kernel_rfl)); (repeat (first | (apply RX.kN; refine RX.x OpA rfl ?_) | (apply RX.kG; first | refine RX.y rfl rfl rfl GdA OpA ?_ | refine RX.n rfl rfl rfl GdA rfl rfl ?_ | refine RX.nU rfl rfl rfl rfl rfl ?_ | refine RX.nS rfl rfl rfl GdA rfl ?_))); (try apply RX.nil _ (by kernel_rfl))) | (apply TL.kC; first | refine TL.condT rfl DecT ?_ | refine TL.condF rfl DecF ?_ | refine TL.condT rfl BoT ?_ | refine TL.condF rfl BoF ?_) | apply TL.block | apply TL.endB | apply TL.exit rfl | apply TL.exitOut rfl | apply TL.ret | apply TL.skip | apply TL.nil | apply loopK.exit rfl | apply loopK.ret | apply loopK.exitOut rfl))
      exact loopK.normal ⟨(), fun i => i, trivial, LeI⟩
  rintro ⟨⟩ -
  have hm7 : 0 < m ∧ m ≤ 7 := by
    rw [← hm]
    unfold mR
    split
    · have := Nat.mod_lt (c.getD 0 0) (show 0 < s.length by omega)
      omega
    · omega
  have ea : l ++ rArcs c d m 0 = l := by simp [rArcs]
  have er : rIdx l.length 0 = [] := rfl
  (repeat (first | apply TL.seq | ((first | apply TL.pl | apply TL.dr _ (by kernel_rfl)); (repeat (first | (apply RX.kN; refine RX.x OpA rfl ?_) | (apply RX.kG; first | refine RX.y rfl rfl rfl GdA OpA ?_ | refine RX.n rfl rfl rfl GdA rfl rfl ?_ | refine RX.nU rfl rfl rfl rfl rfl ?_ | refine RX.nS rfl rfl rfl GdA rfl ?_))); (try apply RX.nil _ (by kernel_rfl))) | (apply TL.kC; first | refine TL.condT rfl DecT ?_ | refine TL.condF rfl DecF ?_ | refine TL.condT rfl BoT ?_ | refine TL.condF rfl BoF ?_) | apply TL.block | apply TL.endB | apply TL.exit rfl | apply TL.exitOut rfl | apply TL.ret | apply TL.skip | apply TL.nil | apply loopK.exit rfl | apply loopK.ret | apply loopK.exitOut rfl))
  refine TL.viewNil 9 3002 3 eInt rfl rfl rfl ?_
  refine TL.loop (ρ := sg [(3000, 115)]) (X := Nat) (fun k => ⟨[(0, .a 1000 c.length), (1, .a 1001 d.length), (4, .p 4 0), (6, .p 6 0), (8, iv m), (9, .a 3002 (rIdx l.length k).length), (10, iv k)], [(1000, .ro eByt c), (1001, .ro eByt d), (15, .own 2 eInt s), (3000, .own 44 eArc (l ++ rArcs c d m k)), (6, .cells 25 [.a 15 s.length, .a 3000 (l ++ rArcs c d m k).length]), (4, .cells 25 [.v (.slice none 0 0), .v (.slice none 0 0)]), (3002, .own 3 eInt (rIdx l.length k))]⟩) (fun k => k ≤ m) (fun k => m - k) 0 (by omega) (LeR (sg [(3000, 115)]) (by exact LeSA) (by rw [ea, er]; exact LeA)) ?_
  intro k hk
  by_cases hlt : k < m
  · have hy : l ++ rArcs c d m (k + 1) = (l ++ rArcs c d m k) ++ [⟨k, ((k : Int) + 1) % (m : Int), 0, capR c k, costR d k⟩] := by rw [rArcs_succ, ← List.append_assoc]
    have hz := rIdx_succ l.length k
    have hzl := rIdx_len l.length k
    have hLl : (l ++ rArcs c d m k).length = l.length + k := by simp [rArcs_len]
    generalize l ++ rArcs c d m k = L at *
    generalize rIdx l.length k = R at *
    rw [← hLl] at hz
    by_cases hkd : k < d.length
    · obtain ⟨b, hb⟩ := at_ hkd
      have hbb := hd b (List.mem_of_getElem? hb)
      have hcost : costR d k = (b : Int) % 9 - 6 := by unfold costR; rw [if_pos hkd, getD_at hb]
      rw [hcost] at hy
      by_cases hc1 : 1 < c.length
      · by_cases hq : ((c.getD 1 eByt.zero : Nat) : Int) % 8 = 0
        · by_cases hk0 : k = 0
          · have hcap : capR c k = 5 := if_pos ⟨hc1, hq, hk0⟩
            rw [hcap] at hy
            (repeat (first | apply TL.seq | ((first | apply TL.pl | apply TL.dr _ (by kernel_rfl)); (repeat (first | (apply RX.kN; refine RX.x OpA rfl ?_) | (apply RX.kG; first | refine RX.y rfl rfl rfl GdA OpA ?_ | refine RX.n rfl rfl rfl GdA rfl rfl ?_ | refine RX.nU rfl rfl rfl rfl rfl ?_ | refine RX.nS rfl rfl rfl GdA rfl ?_))); (try apply RX.nil _ (by kernel_rfl))) | (apply TL.kC; first | refine TL.condT rfl DecT ?_ | refine TL.condF rfl DecF ?_ | refine TL.condT rfl BoT ?_ | refine TL.condF rfl BoF ?_) | apply TL.block | apply TL.endB | apply TL.exit rfl | apply TL.exitOut rfl | apply TL.ret | apply TL.skip | apply TL.nil | apply loopK.exit rfl | apply loopK.ret | apply loopK.exitOut rfl))
            exact loopK.normal ⟨k + 1, _, hlt, by omega, LeR (sg [(3000, 77), (3002, 72)]) (by dsimp only; rw [hz, List.length_append]; exact LeSA) (by rw [hy, hz, List.length_append, List.length_append]; exact LeA)⟩
          · have hcap : capR c k = 4611686018427387904 := if_neg (fun h => hk0 h.2.2)
            rw [hcap] at hy
            (repeat (first | apply TL.seq | ((first | apply TL.pl | apply TL.dr _ (by kernel_rfl)); (repeat (first | (apply RX.kN; refine RX.x OpA rfl ?_) | (apply RX.kG; first | refine RX.y rfl rfl rfl GdA OpA ?_ | refine RX.n rfl rfl rfl GdA rfl rfl ?_ | refine RX.nU rfl rfl rfl rfl rfl ?_ | refine RX.nS rfl rfl rfl GdA rfl ?_))); (try apply RX.nil _ (by kernel_rfl))) | (apply TL.kC; first | refine TL.condT rfl DecT ?_ | refine TL.condF rfl DecF ?_ | refine TL.condT rfl BoT ?_ | refine TL.condF rfl BoF ?_) | apply TL.block | apply TL.endB | apply TL.exit rfl | apply TL.exitOut rfl | apply TL.ret | apply TL.skip | apply TL.nil | apply loopK.exit rfl | apply loopK.ret | apply loopK.exitOut rfl))
            exact loopK.normal ⟨k + 1, _, hlt, by omega, LeR (sg [(3000, 77), (3002, 72)]) (by dsimp only; rw [hz, List.length_append]; exact LeSA) (by rw [hy, hz, List.length_append, List.length_append]; exact LeA)⟩
        · have hcap : capR c k = 4611686018427387904 := if_neg (fun h => hq h.2.1)
          rw [hcap] at hy
          (repeat (first | apply TL.seq | ((first | apply TL.pl | apply TL.dr _ (by kernel_rfl)); (repeat (first | (apply RX.kN; refine RX.x OpA rfl ?_) | (apply RX.kG; first | refine RX.y rfl rfl rfl GdA OpA ?_ | refine RX.n rfl rfl rfl GdA rfl rfl ?_ | refine RX.nU rfl rfl rfl rfl rfl ?_ | refine RX.nS rfl rfl rfl GdA rfl ?_))); (try apply RX.nil _ (by kernel_rfl))) | (apply TL.kC; first | refine TL.condT rfl DecT ?_ | refine TL.condF rfl DecF ?_ | refine TL.condT rfl BoT ?_ | refine TL.condF rfl BoF ?_) | apply TL.block | apply TL.endB | apply TL.exit rfl | apply TL.exitOut rfl | apply TL.ret | apply TL.skip | apply TL.nil | apply loopK.exit rfl | apply loopK.ret | apply loopK.exitOut rfl))
          exact loopK.normal ⟨k + 1, _, hlt, by omega, LeR (sg [(3000, 77), (3002, 72)]) (by dsimp only; rw [hz, List.length_append]; exact LeSA) (by rw [hy, hz, List.length_append, List.length_append]; exact LeA)⟩
      · have hcap : capR c k = 4611686018427387904 := if_neg (fun h => hc1 h.1)
        rw [hcap] at hy
        (repeat (first | apply TL.seq | ((first | apply TL.pl | apply TL.dr _ (by kernel_rfl)); (repeat (first | (apply RX.kN; refine RX.x OpA rfl ?_) | (apply RX.kG; first | refine RX.y rfl rfl rfl GdA OpA ?_ | refine RX.n rfl rfl rfl GdA rfl rfl ?_ | refine RX.nU rfl rfl rfl rfl rfl ?_ | refine RX.nS rfl rfl rfl GdA rfl ?_))); (try apply RX.nil _ (by kernel_rfl))) | (apply TL.kC; first | refine TL.condT rfl DecT ?_ | refine TL.condF rfl DecF ?_ | refine TL.condT rfl BoT ?_ | refine TL.condF rfl BoF ?_) | apply TL.block | apply TL.endB | apply TL.exit rfl | apply TL.exitOut rfl | apply TL.ret | apply TL.skip | apply TL.nil | apply loopK.exit rfl | apply loopK.ret | apply loopK.exitOut rfl))
        exact loopK.normal ⟨k + 1, _, hlt, by omega, LeR (sg [(3000, 77), (3002, 72)]) (by dsimp only; rw [hz, List.length_append]; exact LeSA) (by rw [hy, hz, List.length_append, List.length_append]; exact LeA)⟩
    · have hcost : costR d k = 0 := if_neg hkd
      rw [hcost] at hy
      by_cases hc1 : 1 < c.length
      · by_cases hq : ((c.getD 1 eByt.zero : Nat) : Int) % 8 = 0
        · by_cases hk0 : k = 0
          · have hcap : capR c k = 5 := if_pos ⟨hc1, hq, hk0⟩
            rw [hcap] at hy
            (repeat (first | apply TL.seq | ((first | apply TL.pl | apply TL.dr _ (by kernel_rfl)); (repeat (first | (apply RX.kN; refine RX.x OpA rfl ?_) | (apply RX.kG; first | refine RX.y rfl rfl rfl GdA OpA ?_ | refine RX.n rfl rfl rfl GdA rfl rfl ?_ | refine RX.nU rfl rfl rfl rfl rfl ?_ | refine RX.nS rfl rfl rfl GdA rfl ?_))); (try apply RX.nil _ (by kernel_rfl))) | (apply TL.kC; first | refine TL.condT rfl DecT ?_ | refine TL.condF rfl DecF ?_ | refine TL.condT rfl BoT ?_ | refine TL.condF rfl BoF ?_) | apply TL.block | apply TL.endB | apply TL.exit rfl | apply TL.exitOut rfl | apply TL.ret | apply TL.skip | apply TL.nil | apply loopK.exit rfl | apply loopK.ret | apply loopK.exitOut rfl))
            exact loopK.normal ⟨k + 1, _, hlt, by omega, LeR (sg [(3000, 77), (3002, 72)]) (by dsimp only; rw [hz, List.length_append]; exact LeSA) (by rw [hy, hz, List.length_append, List.length_append]; exact LeA)⟩
          · have hcap : capR c k = 4611686018427387904 := if_neg (fun h => hk0 h.2.2)
            rw [hcap] at hy
            (repeat (first | apply TL.seq | ((first | apply TL.pl | apply TL.dr _ (by kernel_rfl)); (repeat (first | (apply RX.kN; refine RX.x OpA rfl ?_) | (apply RX.kG; first | refine RX.y rfl rfl rfl GdA OpA ?_ | refine RX.n rfl rfl rfl GdA rfl rfl ?_ | refine RX.nU rfl rfl rfl rfl rfl ?_ | refine RX.nS rfl rfl rfl GdA rfl ?_))); (try apply RX.nil _ (by kernel_rfl))) | (apply TL.kC; first | refine TL.condT rfl DecT ?_ | refine TL.condF rfl DecF ?_ | refine TL.condT rfl BoT ?_ | refine TL.condF rfl BoF ?_) | apply TL.block | apply TL.endB | apply TL.exit rfl | apply TL.exitOut rfl | apply TL.ret | apply TL.skip | apply TL.nil | apply loopK.exit rfl | apply loopK.ret | apply loopK.exitOut rfl))
            exact loopK.normal ⟨k + 1, _, hlt, by omega, LeR (sg [(3000, 77), (3002, 72)]) (by dsimp only; rw [hz, List.length_append]; exact LeSA) (by rw [hy, hz, List.length_append, List.length_append]; exact LeA)⟩
        · have hcap : capR c k = 4611686018427387904 := if_neg (fun h => hq h.2.1)
          rw [hcap] at hy
          (repeat (first | apply TL.seq | ((first | apply TL.pl | apply TL.dr _ (by kernel_rfl)); (repeat (first | (apply RX.kN; refine RX.x OpA rfl ?_) | (apply RX.kG; first | refine RX.y rfl rfl rfl GdA OpA ?_ | refine RX.n rfl rfl rfl GdA rfl rfl ?_ | refine RX.nU rfl rfl rfl rfl rfl ?_ | refine RX.nS rfl rfl rfl GdA rfl ?_))); (try apply RX.nil _ (by kernel_rfl))) | (apply TL.kC; first | refine TL.condT rfl DecT ?_ | refine TL.condF rfl DecF ?_ | refine TL.condT rfl BoT ?_ | refine TL.condF rfl BoF ?_) | apply TL.block | apply TL.endB | apply TL.exit rfl | apply TL.exitOut rfl | apply TL.ret | apply TL.skip | apply TL.nil | apply loopK.exit rfl | apply loopK.ret | apply loopK.exitOut rfl))
          exact loopK.normal ⟨k + 1, _, hlt, by omega, LeR (sg [(3000, 77), (3002, 72)]) (by dsimp only; rw [hz, List.length_append]; exact LeSA) (by rw [hy, hz, List.length_append, List.length_append]; exact LeA)⟩
      · have hcap : capR c k = 4611686018427387904 := if_neg (fun h => hc1 h.1)
        rw [hcap] at hy
        (repeat (first | apply TL.seq | ((first | apply TL.pl | apply TL.dr _ (by kernel_rfl)); (repeat (first | (apply RX.kN; refine RX.x OpA rfl ?_) | (apply RX.kG; first | refine RX.y rfl rfl rfl GdA OpA ?_ | refine RX.n rfl rfl rfl GdA rfl rfl ?_ | refine RX.nU rfl rfl rfl rfl rfl ?_ | refine RX.nS rfl rfl rfl GdA rfl ?_))); (try apply RX.nil _ (by kernel_rfl))) | (apply TL.kC; first | refine TL.condT rfl DecT ?_ | refine TL.condF rfl DecF ?_ | refine TL.condT rfl BoT ?_ | refine TL.condF rfl BoF ?_) | apply TL.block | apply TL.endB | apply TL.exit rfl | apply TL.exitOut rfl | apply TL.ret | apply TL.skip | apply TL.nil | apply loopK.exit rfl | apply loopK.ret | apply loopK.exitOut rfl))
        exact loopK.normal ⟨k + 1, _, hlt, by omega, LeR (sg [(3000, 77), (3002, 72)]) (by dsimp only; rw [hz, List.length_append]; exact LeSA) (by rw [hy, hz, List.length_append, List.length_append]; exact LeA)⟩
  obtain rfl : k = m := by omega
  (repeat (first | apply TL.seq | ((first | apply TL.pl | apply TL.dr _ (by kernel_rfl)); (repeat (first | (apply RX.kN; refine RX.x OpA rfl ?_) | (apply RX.kG; first | refine RX.y rfl rfl rfl GdA OpA ?_ | refine RX.n rfl rfl rfl GdA rfl rfl ?_ | refine RX.nU rfl rfl rfl rfl rfl ?_ | refine RX.nS rfl rfl rfl GdA rfl ?_))); (try apply RX.nil _ (by kernel_rfl))) | (apply TL.kC; first | refine TL.condT rfl DecT ?_ | refine TL.condF rfl DecF ?_ | refine TL.condT rfl BoT ?_ | refine TL.condF rfl BoF ?_) | apply TL.block | apply TL.endB | apply TL.exit rfl | apply TL.exitOut rfl | apply TL.ret | apply TL.skip | apply TL.nil | apply loopK.exit rfl | apply loopK.ret | apply loopK.exitOut rfl))
  rw [rIdx_len]
  exact retK.agV (sg [(2000, 15), (2001, 3000), (2002, 3002)]) rfl rfl LeA
end Go.Proofs.Ytiboffhdabeiiaa
