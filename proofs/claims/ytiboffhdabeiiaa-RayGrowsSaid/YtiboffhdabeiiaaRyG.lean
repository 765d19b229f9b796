/-
  RayBegins; by symbolic steps.
-/
import Derived.Test.YtiboffhdabeiiaaRyF
namespace Go.Proofs.Ytiboffhdabeiiaa
open Go Go.RowKit
theorem round_bnd {c d : List Nat} {a : PArc} (h : a ∈ arcsN c (nOf d) ++ rArcs c d (mR c (nOf d)) (mR c (nOf d))) : 0 ≤ a.lo ∧ a.lo ≤ 2 ∧ a.lo ≤ a.ca ∧ -8 ≤ a.co ∧ a.co ≤ 12 := by
  have hN := nOf_range d
  rcases List.mem_append.1 h with h | h
  · have := arcsN_mem (c := c) (n := nOf d) (a := a) (by omega) h
    omega
  · have := rArcs_mem h (mR_range c hN).1 (Nat.le_refl _)
    omega
theorem round_len (c d : List Nat) : (arcsN c (nOf d) ++ rArcs c d (mR c (nOf d)) (mR c (nOf d))).length = (arcsN c (nOf d)).length + mR c (nOf d) := by rw [List.length_append, rArcs_len]
theorem rIdx_in {b m : Nat} {a : Int} (h : a ∈ rIdx b m) : -9223372036854775808 ≤ a ∧ a ≤ 9223372036854775807 ∨ 1000 ≤ b + m := by
  have := rIdx_mem h
  omega
theorem wrong_alike {z : PArc} {N : Nat} (h : wrongN z N = 0) (h3 : 0 ≤ z.lo ∧ z.lo ≤ 2) (ca co : Int) (hca : ca = 1099511627776 ∨ ca = 4611686018427387904) (hco : -1000000 ≤ co ∧ co ≤ 1000000) : wrongN ⟨z.fr, z.dt, z.lo, ca, co⟩ N = 0 := by
  unfold wrongN at h ⊢
  split at h
  · rename_i hn
    rw [if_pos hn, if_neg (by simp; omega)]
    unfold inB
    rw [if_pos (by simp; omega)]
  · omega
set_option maxHeartbeats 2000000 in
theorem rayBegins_s (c d : List Nat) (k : Nat) (hc : ∀ x ∈ c, x < 256) (hd : ∀ x ∈ d, x < 256) (hk : k < 256) (h1 : c.length ≤ 9223372036854775807) (h2 : d.length ≤ 9223372036854775807) :
    Spec Try.prog 4 [.a 1000 c.length, .a 1001 d.length, .v (.int .u8 (k : Int))] [(1000, .ro eByt c), (1001, .ro eByt d)] (bv true) [] := by
  have ttt : true = true := rfl
  have fff : false = false := rfl
  have hN := nOf_range d
  have hL := arcsN_len c (nOf d)
  have hsl := instS_len c d
  have hm := mR_range c hN
  have pR := round_s c d hc hd h1 h2 (mR c (nOf d)) rfl
  have hring := ring_at c d (arcsN c (nOf d)) (mR c (nOf d))
  have hll := round_len c d
  have hbn := fun a h => round_bnd (c := c) (d := d) (a := a) h
  have hw := fun a h => wrong_round (c := c) (d := d) (a := a) h
  have hR := fun A h1 h2 => right_of (c := c) (d := d) (A := A) h1 h2
  have him := fun a h => rIdx_mem (b := (arcsN c (nOf d)).length) (k := mR c (nOf d)) (a := a) h
  have hless := turns_less (s := instS c d) hring hm.1 (hR _ (by omega) hw)
  have hrot0 := fun t ht => turns_rot (s := instS c d) (t := t) hring ht
  generalize arcsN c (nOf d) ++ rArcs c d (mR c (nOf d)) (mR c (nOf d)) = l at *
  generalize (arcsN c (nOf d)).length = b at *
  generalize mR c (nOf d) = m at *
  generalize instS c d = s at *
  have htm := Nat.mod_lt k hm.1
  have hkt : (k : Int) % (m : Int) = ((k % m : Nat) : Int) := rfl
  generalize k % m = t at *
  have hx := rIdx_at (b := b) (m := m) (j := t) htm
  have hil := rIdx_len b m
  have hrot := hrot0 t htm
  clear hrot0
  generalize rIdx b m = r at *
  obtain ⟨z, hz⟩ := at_ (l := l) (k := b + t) (by omega)
  have hzb := hbn z (List.mem_of_getElem? hz)
  have hzw := hw z (List.mem_of_getElem? hz)
  have p1 := turns_s s l r (by omega) (fun v h => by have := him v h; omega) (by omega) (fun a h => by have := hbn a h; omega)
  have p2 := turns_s s l (r.drop t ++ r.take t) (by simp; omega) (fun v h => by have := him v (by rcases List.mem_append.1 h with h | h; exact List.mem_of_mem_drop h; exact List.mem_of_mem_take h); omega) (by omega) (fun a h => by have := hbn a h; omega)
  have p3 := turns_s s l (r.drop 1) (by simp; omega) (fun v h => by have := him v (List.mem_of_mem_drop h); omega) (by omega) (fun a h => by have := hbn a h; omega)
  rw [hil] at p1
  have hdl : (r.drop t).length = m - t := by simp; omega
  have htl : (r.take t).length = t := by simp; omega
  have h1l : (r.drop 1).length = m - 1 := by simp; omega
  rw [h1l] at p3
  obtain ⟨E0, hE0⟩ : ∃ n, turnsN s l r = n := ⟨_, rfl⟩
  obtain ⟨G0, hG0⟩ : ∃ n, turnsN s l (r.drop 1) = n := ⟨_, rfl⟩
  have hrt : turnsN s l (r.drop t ++ r.take t) = E0 := by rw [hE0] at hrot; exact hrot
  rw [hE0] at p1
  rw [hrt] at p2
  rw [hG0] at p3
  rw [hG0] at hless
  obtain ⟨u, hu⟩ : ∃ u, r.drop t = u := ⟨_, rfl⟩
  obtain ⟨v, hv⟩ : ∃ v, r.take t = v := ⟨_, rfl⟩
  obtain ⟨w, hw1⟩ : ∃ w, r.drop 1 = w := ⟨_, rfl⟩
  have edr : List.take (m - t) (List.drop t r) = u := by rw [← hu]; exact List.take_of_length_le (by simp; omega)
  have ed1 : List.take (m - 1) (List.drop 1 r) = w := by rw [← hw1]; exact List.take_of_length_le (by simp; omega)
  rw [hu] at hdl p2
  rw [hv] at htl p2
  rw [hw1] at p3 h1l
  rw [show (u ++ v).length = u.length + v.length by simp] at p2
  obtain ⟨l1, el1⟩ : ∃ q, l.set (b + t) ⟨z.fr, z.dt, z.lo, 1099511627776, z.co⟩ = q := ⟨_, rfl⟩
  obtain ⟨l2, el2⟩ : ∃ q, l1.set (b + t) ⟨z.fr, z.dt, z.lo, 4611686018427387904, z.co⟩ = q := ⟨_, rfl⟩
  obtain ⟨l3, el3⟩ : ∃ q, l2.set (b + t) ⟨z.fr, z.dt, z.lo, 4611686018427387904, 1000⟩ = q := ⟨_, rfl⟩
  have n1 : l1.length = l.length := by rw [← el1, List.length_set]
  have n2 : l2.length = l.length := by rw [← el2, List.length_set, n1]
  have n3 : l3.length = l.length := by rw [← el3, List.length_set, n2]
  have hz1 : l1[b + t]? = some ⟨z.fr, z.dt, z.lo, 1099511627776, z.co⟩ := by rw [← el1]; exact List.getElem?_set_self (by omega)
  have hz2 : l2[b + t]? = some ⟨z.fr, z.dt, z.lo, 4611686018427387904, z.co⟩ := by rw [← el2]; exact List.getElem?_set_self (by omega)
  have hz3 : l3[b + t]? = some ⟨z.fr, z.dt, z.lo, 4611686018427387904, 1000⟩ := by rw [← el3]; exact List.getElem?_set_self (by omega)
  have m1 : ∀ a ∈ l1, (-8 ≤ a.co ∧ a.co ≤ 1000) ∧ wrongN a (nOf d) = 0 := fun a h => by
    rcases mem_set_or (el1 ▸ h) with h | rfl
    · exact ⟨by have := hbn a h; omega, hw a h⟩
    · exact ⟨by dsimp only; omega, wrong_alike hzw (by omega) _ _ (by omega) (by omega)⟩
  have m2 : ∀ a ∈ l2, (-8 ≤ a.co ∧ a.co ≤ 1000) ∧ wrongN a (nOf d) = 0 := fun a h => by
    rcases mem_set_or (el2 ▸ h) with h | rfl
    · exact m1 a h
    · exact ⟨by dsimp only; omega, wrong_alike hzw (by omega) _ _ (by omega) (by omega)⟩
  have m3 : ∀ a ∈ l3, (-8 ≤ a.co ∧ a.co ≤ 1000) ∧ wrongN a (nOf d) = 0 := fun a h => by
    rcases mem_set_or (el3 ▸ h) with h | rfl
    · exact m2 a h
    · exact ⟨by dsimp only; omega, wrong_alike hzw (by omega) _ _ (by omega) (by omega)⟩
  have hxr : ((b + t : Nat) : Int) ∈ r := List.mem_of_getElem? hx
  have e35 : turnsN s l1 r = 35 ∧ turnsN s l3 r = 35 := by
    refine ⟨turns_bent (hR l1 (by omega) fun a h => (m1 a h).2) (by omega) (by omega) (inf_any hxr ?_), turns_bent (hR l3 (by omega) fun a h => (m3 a h).2) (by omega) (by omega) ?_⟩
    · rw [rArc_nat, getD_at hz1]
      simp
    · have c3 := cst_bnd (l := l3) (lo := -8) (hi := 1000) (fun a h => (m3 a h).1) (by omega)
      have q1 := sumA_dear (l := l3) (r := r) (fun a _ => (c3 a).1) hxr (by omega) (by unfold cst; rw [if_pos (by omega), rArc_nat, getD_at hz3])
      have q2 := sumA_least (l := l3) (B := 1000) (r := r) (fun a _ => (c3 a).2) (by omega)
      exact dear_any q1 (by omega)
  have cb : ∀ a ∈ l3, -9223372036854775808 ≤ a.co ∧ a.co ≤ 9223372036854775807 := fun a h => by have := m3 a h; omega
  have ca : ∀ a ∈ l1, -9223372036854775808 ≤ a.co ∧ a.co ≤ 9223372036854775807 := fun a h => by have := m1 a h; omega
  have p4 := turns_s s l1 r (by omega) (fun v h => by have := him v h; omega) (by omega) ca
  have p5 := turns_s s l3 r (by omega) (fun v h => by have := him v h; omega) (by omega) cb
  rw [e35.1, hil, show vI s l1 = .agg [.a 1000 s.length, .a 1001 l.length] by rw [vI, n1]] at p4
  rw [e35.2, hil, show vI s l3 = .agg [.a 1000 s.length, .a 1001 l.length] by rw [vI, n3]] at p5
  refine Spec.mk [] Try.call4 Try.func4 Try.ntmps4 Try.results4 rfl (by kernel_rfl) (by kernel_rfl) ?_
  (repeat (first | apply TL.seq | ((first | apply TL.pl | apply TL.dr _ (by kernel_rfl)); (repeat (first | (apply RX.kN; refine RX.x OpA rfl ?_) | (apply RX.kG; first | refine RX.y rfl rfl rfl GdA OpA ?_ | refine RX.n rfl rfl rfl GdA rfl rfl ?_ | refine RX.nU rfl rfl rfl rfl rfl ?_ | refine RX.nS rfl rfl rfl GdA rfl ?_))); (try apply RX.nil _ (by kernel_rfl))) | (apply TL.kC; first | refine TL.condT rfl DecT ?_ | refine TL.condF rfl DecF ?_ | refine TL.condT rfl BoT ?_ | refine TL.condF rfl BoF ?_) | apply TL.block | apply TL.endB | apply TL.exit rfl | apply TL.exitOut rfl | apply TL.ret | apply TL.skip | apply TL.nil | apply loopK.exit rfl | apply loopK.ret | apply loopK.exitOut rfl))
  refine RX.x (OpR.callP pR (sg [(2000, 19), (2001, 119), (2002, 219)]) LeA (.tup [.agg [.a 19 _, .a 119 _], .a 219 _]) [(19, .own _ _ _), (119, .own _ _ _), (219, .own _ _ _)]) rfl ?_
  ((repeat (first | (apply RX.kN; refine RX.x OpA rfl ?_) | (apply RX.kG; first | refine RX.y rfl rfl rfl GdA OpA ?_ | refine RX.n rfl rfl rfl GdA rfl rfl ?_ | refine RX.nU rfl rfl rfl rfl rfl ?_ | refine RX.nS rfl rfl rfl GdA rfl ?_))); (try apply RX.nil _ (by kernel_rfl)); repeat (first | apply TL.seq | ((first | apply TL.pl | apply TL.dr _ (by kernel_rfl)); (repeat (first | (apply RX.kN; refine RX.x OpA rfl ?_) | (apply RX.kG; first | refine RX.y rfl rfl rfl GdA OpA ?_ | refine RX.n rfl rfl rfl GdA rfl rfl ?_ | refine RX.nU rfl rfl rfl rfl rfl ?_ | refine RX.nS rfl rfl rfl GdA rfl ?_))); (try apply RX.nil _ (by kernel_rfl))) | (apply TL.kC; first | refine TL.condT rfl DecT ?_ | refine TL.condF rfl DecF ?_ | refine TL.condT rfl BoT ?_ | refine TL.condF rfl BoF ?_) | apply TL.block | apply TL.endB | apply TL.exit rfl | apply TL.exitOut rfl | apply TL.ret | apply TL.skip | apply TL.nil | apply loopK.exit rfl | apply loopK.ret | apply loopK.exitOut rfl))
  (first | refine RX.x (OpR.callA (p1) (sg [(1000, 19), (1001, 119), (1002, 219)]) LeA) rfl ?_ | refine RX.y rfl rfl rfl GdA (OpR.callA (p1) (sg [(1000, 19), (1001, 119), (1002, 219)]) LeA) ?_); ((repeat (first | (apply RX.kN; refine RX.x OpA rfl ?_) | (apply RX.kG; first | refine RX.y rfl rfl rfl GdA OpA ?_ | refine RX.n rfl rfl rfl GdA rfl rfl ?_ | refine RX.nU rfl rfl rfl rfl rfl ?_ | refine RX.nS rfl rfl rfl GdA rfl ?_))); (try apply RX.nil _ (by kernel_rfl)); repeat (first | apply TL.seq | ((first | apply TL.pl | apply TL.dr _ (by kernel_rfl)); (repeat (first | (apply RX.kN; refine RX.x OpA rfl ?_) | (apply RX.kG; first | refine RX.y rfl rfl rfl GdA OpA ?_ | refine RX.n rfl rfl rfl GdA rfl rfl ?_ | refine RX.nU rfl rfl rfl rfl rfl ?_ | refine RX.nS rfl rfl rfl GdA rfl ?_))); (try apply RX.nil _ (by kernel_rfl))) | (apply TL.kC; first | refine TL.condT rfl DecT ?_ | refine TL.condF rfl DecF ?_ | refine TL.condT rfl BoT ?_ | refine TL.condF rfl BoF ?_) | apply TL.block | apply TL.endB | apply TL.exit rfl | apply TL.exitOut rfl | apply TL.ret | apply TL.skip | apply TL.nil | apply loopK.exit rfl | apply loopK.ret | apply loopK.exitOut rfl))
  rw [hkt]
  ((repeat (first | (apply RX.kN; refine RX.x OpA rfl ?_) | (apply RX.kG; first | refine RX.y rfl rfl rfl GdA OpA ?_ | refine RX.n rfl rfl rfl GdA rfl rfl ?_ | refine RX.nU rfl rfl rfl rfl rfl ?_ | refine RX.nS rfl rfl rfl GdA rfl ?_))); (try apply RX.nil _ (by kernel_rfl)); repeat (first | apply TL.seq | ((first | apply TL.pl | apply TL.dr _ (by kernel_rfl)); (repeat (first | (apply RX.kN; refine RX.x OpA rfl ?_) | (apply RX.kG; first | refine RX.y rfl rfl rfl GdA OpA ?_ | refine RX.n rfl rfl rfl GdA rfl rfl ?_ | refine RX.nU rfl rfl rfl rfl rfl ?_ | refine RX.nS rfl rfl rfl GdA rfl ?_))); (try apply RX.nil _ (by kernel_rfl))) | (apply TL.kC; first | refine TL.condT rfl DecT ?_ | refine TL.condF rfl DecF ?_ | refine TL.condT rfl BoT ?_ | refine TL.condF rfl BoF ?_) | apply TL.block | apply TL.endB | apply TL.exit rfl | apply TL.exitOut rfl | apply TL.ret | apply TL.skip | apply TL.nil | apply loopK.exit rfl | apply loopK.ret | apply loopK.exitOut rfl))
  rw [Int.toNat_natCast, edr, ← hdl]
  ((repeat (first | (apply RX.kN; refine RX.x OpA rfl ?_) | (apply RX.kG; first | refine RX.y rfl rfl rfl GdA OpA ?_ | refine RX.n rfl rfl rfl GdA rfl rfl ?_ | refine RX.nU rfl rfl rfl rfl rfl ?_ | refine RX.nS rfl rfl rfl GdA rfl ?_))); (try apply RX.nil _ (by kernel_rfl)); repeat (first | apply TL.seq | ((first | apply TL.pl | apply TL.dr _ (by kernel_rfl)); (repeat (first | (apply RX.kN; refine RX.x OpA rfl ?_) | (apply RX.kG; first | refine RX.y rfl rfl rfl GdA OpA ?_ | refine RX.n rfl rfl rfl GdA rfl rfl ?_ | refine RX.nU rfl rfl rfl rfl rfl ?_ | refine RX.nS rfl rfl rfl GdA rfl ?_))); (try apply RX.nil _ (by kernel_rfl))) | (apply TL.kC; first | refine TL.condT rfl DecT ?_ | refine TL.condF rfl DecF ?_ | refine TL.condT rfl BoT ?_ | refine TL.condF rfl BoF ?_) | apply TL.block | apply TL.endB | apply TL.exit rfl | apply TL.exitOut rfl | apply TL.ret | apply TL.skip | apply TL.nil | apply loopK.exit rfl | apply loopK.ret | apply loopK.exitOut rfl))
  rw [Nat.zero_add, List.nil_append, Int.toNat_natCast, Nat.sub_zero, List.drop_zero, hv, show SV.a 38 t = .a 38 v.length by rw [htl]]
  ((repeat (first | (apply RX.kN; refine RX.x OpA rfl ?_) | (apply RX.kG; first | refine RX.y rfl rfl rfl GdA OpA ?_ | refine RX.n rfl rfl rfl GdA rfl rfl ?_ | refine RX.nU rfl rfl rfl rfl rfl ?_ | refine RX.nS rfl rfl rfl GdA rfl ?_))); (try apply RX.nil _ (by kernel_rfl)); repeat (first | apply TL.seq | ((first | apply TL.pl | apply TL.dr _ (by kernel_rfl)); (repeat (first | (apply RX.kN; refine RX.x OpA rfl ?_) | (apply RX.kG; first | refine RX.y rfl rfl rfl GdA OpA ?_ | refine RX.n rfl rfl rfl GdA rfl rfl ?_ | refine RX.nU rfl rfl rfl rfl rfl ?_ | refine RX.nS rfl rfl rfl GdA rfl ?_))); (try apply RX.nil _ (by kernel_rfl))) | (apply TL.kC; first | refine TL.condT rfl DecT ?_ | refine TL.condF rfl DecF ?_ | refine TL.condT rfl BoT ?_ | refine TL.condF rfl BoF ?_) | apply TL.block | apply TL.endB | apply TL.exit rfl | apply TL.exitOut rfl | apply TL.ret | apply TL.skip | apply TL.nil | apply loopK.exit rfl | apply loopK.ret | apply loopK.exitOut rfl))
  (first | refine RX.x (OpR.callA (p2) (sg [(1000, 19), (1001, 119), (1002, 39)]) LeA) rfl ?_ | refine RX.y rfl rfl rfl GdA (OpR.callA (p2) (sg [(1000, 19), (1001, 119), (1002, 39)]) LeA) ?_); ((repeat (first | (apply RX.kN; refine RX.x OpA rfl ?_) | (apply RX.kG; first | refine RX.y rfl rfl rfl GdA OpA ?_ | refine RX.n rfl rfl rfl GdA rfl rfl ?_ | refine RX.nU rfl rfl rfl rfl rfl ?_ | refine RX.nS rfl rfl rfl GdA rfl ?_))); (try apply RX.nil _ (by kernel_rfl)); repeat (first | apply TL.seq | ((first | apply TL.pl | apply TL.dr _ (by kernel_rfl)); (repeat (first | (apply RX.kN; refine RX.x OpA rfl ?_) | (apply RX.kG; first | refine RX.y rfl rfl rfl GdA OpA ?_ | refine RX.n rfl rfl rfl GdA rfl rfl ?_ | refine RX.nU rfl rfl rfl rfl rfl ?_ | refine RX.nS rfl rfl rfl GdA rfl ?_))); (try apply RX.nil _ (by kernel_rfl))) | (apply TL.kC; first | refine TL.condT rfl DecT ?_ | refine TL.condF rfl DecF ?_ | refine TL.condT rfl BoT ?_ | refine TL.condF rfl BoF ?_) | apply TL.block | apply TL.endB | apply TL.exit rfl | apply TL.exitOut rfl | apply TL.ret | apply TL.skip | apply TL.nil | apply loopK.exit rfl | apply loopK.ret | apply loopK.exitOut rfl))
  rw [show Int.toNat 1 = 1 from rfl, ed1]
  ((repeat (first | (apply RX.kN; refine RX.x OpA rfl ?_) | (apply RX.kG; first | refine RX.y rfl rfl rfl GdA OpA ?_ | refine RX.n rfl rfl rfl GdA rfl rfl ?_ | refine RX.nU rfl rfl rfl rfl rfl ?_ | refine RX.nS rfl rfl rfl GdA rfl ?_))); (try apply RX.nil _ (by kernel_rfl)); repeat (first | apply TL.seq | ((first | apply TL.pl | apply TL.dr _ (by kernel_rfl)); (repeat (first | (apply RX.kN; refine RX.x OpA rfl ?_) | (apply RX.kG; first | refine RX.y rfl rfl rfl GdA OpA ?_ | refine RX.n rfl rfl rfl GdA rfl rfl ?_ | refine RX.nU rfl rfl rfl rfl rfl ?_ | refine RX.nS rfl rfl rfl GdA rfl ?_))); (try apply RX.nil _ (by kernel_rfl))) | (apply TL.kC; first | refine TL.condT rfl DecT ?_ | refine TL.condF rfl DecF ?_ | refine TL.condT rfl BoT ?_ | refine TL.condF rfl BoF ?_) | apply TL.block | apply TL.endB | apply TL.exit rfl | apply TL.exitOut rfl | apply TL.ret | apply TL.skip | apply TL.nil | apply loopK.exit rfl | apply loopK.ret | apply loopK.exitOut rfl))
  (first | refine RX.x (OpR.callA (p3) (sg [(1000, 19), (1001, 119), (1002, 45)]) LeA) rfl ?_ | refine RX.y rfl rfl rfl GdA (OpR.callA (p3) (sg [(1000, 19), (1001, 119), (1002, 45)]) LeA) ?_); ((repeat (first | (apply RX.kN; refine RX.x OpA rfl ?_) | (apply RX.kG; first | refine RX.y rfl rfl rfl GdA OpA ?_ | refine RX.n rfl rfl rfl GdA rfl rfl ?_ | refine RX.nU rfl rfl rfl rfl rfl ?_ | refine RX.nS rfl rfl rfl GdA rfl ?_))); (try apply RX.nil _ (by kernel_rfl)); repeat (first | apply TL.seq | ((first | apply TL.pl | apply TL.dr _ (by kernel_rfl)); (repeat (first | (apply RX.kN; refine RX.x OpA rfl ?_) | (apply RX.kG; first | refine RX.y rfl rfl rfl GdA OpA ?_ | refine RX.n rfl rfl rfl GdA rfl rfl ?_ | refine RX.nU rfl rfl rfl rfl rfl ?_ | refine RX.nS rfl rfl rfl GdA rfl ?_))); (try apply RX.nil _ (by kernel_rfl))) | (apply TL.kC; first | refine TL.condT rfl DecT ?_ | refine TL.condF rfl DecF ?_ | refine TL.condT rfl BoT ?_ | refine TL.condF rfl BoF ?_) | apply TL.block | apply TL.endB | apply TL.exit rfl | apply TL.exitOut rfl | apply TL.ret | apply TL.skip | apply TL.nil | apply loopK.exit rfl | apply loopK.ret | apply loopK.exitOut rfl))
  rw [el1]
  ((repeat (first | (apply RX.kN; refine RX.x OpA rfl ?_) | (apply RX.kG; first | refine RX.y rfl rfl rfl GdA OpA ?_ | refine RX.n rfl rfl rfl GdA rfl rfl ?_ | refine RX.nU rfl rfl rfl rfl rfl ?_ | refine RX.nS rfl rfl rfl GdA rfl ?_))); (try apply RX.nil _ (by kernel_rfl)); repeat (first | apply TL.seq | ((first | apply TL.pl | apply TL.dr _ (by kernel_rfl)); (repeat (first | (apply RX.kN; refine RX.x OpA rfl ?_) | (apply RX.kG; first | refine RX.y rfl rfl rfl GdA OpA ?_ | refine RX.n rfl rfl rfl GdA rfl rfl ?_ | refine RX.nU rfl rfl rfl rfl rfl ?_ | refine RX.nS rfl rfl rfl GdA rfl ?_))); (try apply RX.nil _ (by kernel_rfl))) | (apply TL.kC; first | refine TL.condT rfl DecT ?_ | refine TL.condF rfl DecF ?_ | refine TL.condT rfl BoT ?_ | refine TL.condF rfl BoF ?_) | apply TL.block | apply TL.endB | apply TL.exit rfl | apply TL.exitOut rfl | apply TL.ret | apply TL.skip | apply TL.nil | apply loopK.exit rfl | apply loopK.ret | apply loopK.exitOut rfl))
  (first | refine RX.x (OpR.callA (p4) (sg [(1000, 19), (1001, 119), (1002, 219)]) LeA) rfl ?_ | refine RX.y rfl rfl rfl GdA (OpR.callA (p4) (sg [(1000, 19), (1001, 119), (1002, 219)]) LeA) ?_); ((repeat (first | (apply RX.kN; refine RX.x OpA rfl ?_) | (apply RX.kG; first | refine RX.y rfl rfl rfl GdA OpA ?_ | refine RX.n rfl rfl rfl GdA rfl rfl ?_ | refine RX.nU rfl rfl rfl rfl rfl ?_ | refine RX.nS rfl rfl rfl GdA rfl ?_))); (try apply RX.nil _ (by kernel_rfl)); repeat (first | apply TL.seq | ((first | apply TL.pl | apply TL.dr _ (by kernel_rfl)); (repeat (first | (apply RX.kN; refine RX.x OpA rfl ?_) | (apply RX.kG; first | refine RX.y rfl rfl rfl GdA OpA ?_ | refine RX.n rfl rfl rfl GdA rfl rfl ?_ | refine RX.nU rfl rfl rfl rfl rfl ?_ | refine RX.nS rfl rfl rfl GdA rfl ?_))); (try apply RX.nil _ (by kernel_rfl))) | (apply TL.kC; first | refine TL.condT rfl DecT ?_ | refine TL.condF rfl DecF ?_ | refine TL.condT rfl BoT ?_ | refine TL.condF rfl BoF ?_) | apply TL.block | apply TL.endB | apply TL.exit rfl | apply TL.exitOut rfl | apply TL.ret | apply TL.skip | apply TL.nil | apply loopK.exit rfl | apply loopK.ret | apply loopK.exitOut rfl))
  rw [el2]
  ((repeat (first | (apply RX.kN; refine RX.x OpA rfl ?_) | (apply RX.kG; first | refine RX.y rfl rfl rfl GdA OpA ?_ | refine RX.n rfl rfl rfl GdA rfl rfl ?_ | refine RX.nU rfl rfl rfl rfl rfl ?_ | refine RX.nS rfl rfl rfl GdA rfl ?_))); (try apply RX.nil _ (by kernel_rfl)); repeat (first | apply TL.seq | ((first | apply TL.pl | apply TL.dr _ (by kernel_rfl)); (repeat (first | (apply RX.kN; refine RX.x OpA rfl ?_) | (apply RX.kG; first | refine RX.y rfl rfl rfl GdA OpA ?_ | refine RX.n rfl rfl rfl GdA rfl rfl ?_ | refine RX.nU rfl rfl rfl rfl rfl ?_ | refine RX.nS rfl rfl rfl GdA rfl ?_))); (try apply RX.nil _ (by kernel_rfl))) | (apply TL.kC; first | refine TL.condT rfl DecT ?_ | refine TL.condF rfl DecF ?_ | refine TL.condT rfl BoT ?_ | refine TL.condF rfl BoF ?_) | apply TL.block | apply TL.endB | apply TL.exit rfl | apply TL.exitOut rfl | apply TL.ret | apply TL.skip | apply TL.nil | apply loopK.exit rfl | apply loopK.ret | apply loopK.exitOut rfl))
  rw [el3]
  ((repeat (first | (apply RX.kN; refine RX.x OpA rfl ?_) | (apply RX.kG; first | refine RX.y rfl rfl rfl GdA OpA ?_ | refine RX.n rfl rfl rfl GdA rfl rfl ?_ | refine RX.nU rfl rfl rfl rfl rfl ?_ | refine RX.nS rfl rfl rfl GdA rfl ?_))); (try apply RX.nil _ (by kernel_rfl)); repeat (first | apply TL.seq | ((first | apply TL.pl | apply TL.dr _ (by kernel_rfl)); (repeat (first | (apply RX.kN; refine RX.x OpA rfl ?_) | (apply RX.kG; first | refine RX.y rfl rfl rfl GdA OpA ?_ | refine RX.n rfl rfl rfl GdA rfl rfl ?_ | refine RX.nU rfl rfl rfl rfl rfl ?_ | refine RX.nS rfl rfl rfl GdA rfl ?_))); (try apply RX.nil _ (by kernel_rfl))) | (apply TL.kC; first | refine TL.condT rfl DecT ?_ | refine TL.condF rfl DecF ?_ | refine TL.condT rfl BoT ?_ | refine TL.condF rfl BoF ?_) | apply TL.block | apply TL.endB | apply TL.exit rfl | apply TL.exitOut rfl | apply TL.ret | apply TL.skip | apply TL.nil | apply loopK.exit rfl | apply loopK.ret | apply loopK.exitOut rfl))
  (first | refine RX.x (OpR.callA (p5) (sg [(1000, 19), (1001, 119), (1002, 219)]) LeA) rfl ?_ | refine RX.y rfl rfl rfl GdA (OpR.callA (p5) (sg [(1000, 19), (1001, 119), (1002, 219)]) LeA) ?_); ((repeat (first | (apply RX.kN; refine RX.x OpA rfl ?_) | (apply RX.kG; first | refine RX.y rfl rfl rfl GdA OpA ?_ | refine RX.n rfl rfl rfl GdA rfl rfl ?_ | refine RX.nU rfl rfl rfl rfl rfl ?_ | refine RX.nS rfl rfl rfl GdA rfl ?_))); (try apply RX.nil _ (by kernel_rfl)); repeat (first | apply TL.seq | ((first | apply TL.pl | apply TL.dr _ (by kernel_rfl)); (repeat (first | (apply RX.kN; refine RX.x OpA rfl ?_) | (apply RX.kG; first | refine RX.y rfl rfl rfl GdA OpA ?_ | refine RX.n rfl rfl rfl GdA rfl rfl ?_ | refine RX.nU rfl rfl rfl rfl rfl ?_ | refine RX.nS rfl rfl rfl GdA rfl ?_))); (try apply RX.nil _ (by kernel_rfl))) | (apply TL.kC; first | refine TL.condT rfl DecT ?_ | refine TL.condF rfl DecF ?_ | refine TL.condT rfl BoT ?_ | refine TL.condF rfl BoF ?_) | apply TL.block | apply TL.endB | apply TL.exit rfl | apply TL.exitOut rfl | apply TL.ret | apply TL.skip | apply TL.nil | apply loopK.exit rfl | apply loopK.ret | apply loopK.exitOut rfl))
  have g1 : decide ((E0 : Int) = (E0 : Int)) = true := dT rfl
  have g2 : decide ((G0 : Int) ≠ 0) = true := dT (by omega)
  have g3 : decide (((35 : Nat) : Int) = 35) = true := rfl
  (first | refine RX.x (OpR.callA (known12_s) (sg []) LeA) rfl ?_ | refine RX.y rfl rfl rfl GdA (OpR.callA (known12_s) (sg []) LeA) ?_); ((repeat (first | (apply RX.kN; refine RX.x OpA rfl ?_) | (apply RX.kG; first | refine RX.y rfl rfl rfl GdA OpA ?_ | refine RX.n rfl rfl rfl GdA rfl rfl ?_ | refine RX.nU rfl rfl rfl rfl rfl ?_ | refine RX.nS rfl rfl rfl GdA rfl ?_))); (try apply RX.nil _ (by kernel_rfl)); repeat (first | apply TL.seq | ((first | apply TL.pl | apply TL.dr _ (by kernel_rfl)); (repeat (first | (apply RX.kN; refine RX.x OpA rfl ?_) | (apply RX.kG; first | refine RX.y rfl rfl rfl GdA OpA ?_ | refine RX.n rfl rfl rfl GdA rfl rfl ?_ | refine RX.nU rfl rfl rfl rfl rfl ?_ | refine RX.nS rfl rfl rfl GdA rfl ?_))); (try apply RX.nil _ (by kernel_rfl))) | (apply TL.kC; first | refine TL.condT rfl DecT ?_ | refine TL.condF rfl DecF ?_ | refine TL.condT rfl BoT ?_ | refine TL.condF rfl BoF ?_) | apply TL.block | apply TL.endB | apply TL.exit rfl | apply TL.exitOut rfl | apply TL.ret | apply TL.skip | apply TL.nil | apply loopK.exit rfl | apply loopK.ret | apply loopK.exitOut rfl))
  exact retK.v rfl
end Go.Proofs.Ytiboffhdabeiiaa
