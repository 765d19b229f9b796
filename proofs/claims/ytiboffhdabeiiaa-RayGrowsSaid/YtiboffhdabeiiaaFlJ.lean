/-
  FlowMade; by symbolic steps.
-/
import Derived.Test.YtiboffhdabeiiaaFlI
namespace Go.Proofs.Ytiboffhdabeiiaa
open Go Go.RowKit
theorem arcsN_cap {c : List Nat} {n : Int} {a : PArc} (h : a ∈ arcsN c n) : a.ca = 4611686018427387904 ∨ a.ca ≤ 4398046511104 := by
  unfold arcsN arcsTo at h
  simp only [List.mem_map, List.mem_range] at h
  obtain ⟨k, _, rfl⟩ := h
  unfold arcAt arcOf
  generalize c.getD (4 * k) 0 = b0
  generalize c.getD (4 * k + 1) 0 = b1
  generalize c.getD (4 * k + 2) 0 = b2
  generalize c.getD (4 * k + 3) 0 = b3
  dsimp only
  (repeat' split) <;> omega
theorem back_in2 {n : Int} (h1 : -9223372036854775808 ≤ n) (h2 : n ≤ 9223372036854775807) : back n = (n, true) := by
  have : cn n = n := cn_in (by omega) (by omega)
  unfold back
  rw [this, if_pos ⟨h1, h2⟩]
set_option maxHeartbeats 2000000 in
theorem flowMade_s (c d : List Nat) (n : Int) (hc : ∀ x ∈ c, x < 256) (hd : ∀ x ∈ d, x < 256) (h1 : c.length ≤ 9223372036854775807) (h2 : d.length ≤ 9223372036854775807) (_hn1 : -9223372036854775808 ≤ n) (_hn2 : n ≤ 9223372036854775807) :
    Spec Try.prog 9 [.a 1000 c.length, .a 1001 d.length, iv n] [(1000, .ro eByt c), (1001, .ro eByt d)] (bv true) [] := by
  have ttt : true = true := rfl
  have nt : (!true) = false := rfl
  have hn := nOf_range d
  have hL := arcsN_len c (nOf d)
  have hA := fun a h => arcsN_mem (c := c) (n := nOf d) (a := a) (by omega) h
  have hA2 := fun a h => arcsN_cap (c := c) (n := nOf d) (a := a) h
  have hsl := instS_len c d
  have pI := inst_s c d hc hd h1 h2
  generalize instS c d = s at *
  generalize arcsN c (nOf d) = l at *
  obtain ⟨r, hr⟩ : ∃ r, n.tmod 1000 = r := ⟨_, rfl⟩
  have hrb : -999 ≤ r ∧ r ≤ 999 := by
    rw [← hr]
    have e1 := Int.tmod_lt_of_pos n (show (0 : Int) < 1000 by decide)
    have e2 := Int.lt_tmod_of_pos n (show (0 : Int) < 1000 by decide)
    omega
  have hw : ∀ a ∈ l, wholeB s.length a = true := fun a h => by have := hA a h; simp only [wholeB, decide_eq_true_eq]; omega
  have pF := flow_s s l d (by omega) hd (fun a h => by have := hA a h; omega)
  have hxl := flowN_len d l
  obtain ⟨hM, hMb⟩ := made_fits (n0 := s.length) (l := l) (d := d) (r := r) (fun a h => by have := hA a h; have := hA2 a h; omega) (by omega) (by omega) hrb
  have hxb : ∀ n ∈ flowN d l, -9223372036854775808 ≤ n ∧ n ≤ 9223372036854775807 := by
    intro n hn
    obtain ⟨j, hj⟩ := List.mem_iff_getElem?.1 hn
    have h5 := flowN_5 (l := l) (d := d) (fun a h => by have := hA a h; omega) j
    rw [List.getD_eq_getElem?_getD, hj] at h5
    simp at h5
    omega
  generalize flowN d l = x at *
  have hs64 : s.length ≤ 1000000000 := by omega
  have hl64 : l.length ≤ 1000000000 := by omega
  have hNl := netN_len s.length l x l.length
  have hNat := fun v (hv : v < s.length) => netN_list (x := x) hw hv
  have pN := net_s s l x hs64 hl64 hxb
  generalize netN s.length l x l.length = N at *
  have hNb : ∀ m ∈ N, -9223372036854775808 ≤ m ∧ m ≤ 9223372036854775807 := fun m h => by
    obtain ⟨v, hv⟩ := List.mem_iff_getElem?.1 h
    have hvl := (List.getElem?_eq_some_iff.1 hv).1
    rw [hNat v (by omega)] at hv
    injection hv with hv
    have := hMb v (by omega)
    omega
  have pZ := fits_s N (l.map (rate r)) x (by omega) (by simp; omega) hxb hNb
  unfold vI hI at pZ
  rw [hM, hNl, List.length_map] at pZ
  have hWl := wl_len N
  refine Spec.mk [] Try.call9 Try.func9 Try.ntmps9 Try.results9 rfl (by kernel_rfl) (by kernel_rfl) ?_
  (repeat (first | apply TL.seq | ((first | apply TL.pl | apply TL.dr _ (by kernel_rfl)); (repeat (first | (apply RX.kN; refine RX.x OpA rfl ?_) | (apply RX.kG; first | refine RX.y rfl rfl rfl GdA OpA ?_ | refine RX.n rfl rfl rfl GdA rfl rfl ?_ | refine RX.nU rfl rfl rfl rfl rfl ?_ | refine RX.nS rfl rfl rfl GdA rfl ?_))); (try apply RX.nil _ (by kernel_rfl))) | (apply TL.kC; first | refine TL.condT rfl DecT ?_ | refine TL.condF rfl DecF ?_ | refine TL.condT rfl BoT ?_ | refine TL.condF rfl BoF ?_) | apply TL.block | apply TL.endB | apply TL.exit rfl | apply TL.exitOut rfl | apply TL.ret | apply TL.skip | apply TL.nil | apply loopK.exit rfl | apply loopK.ret | apply loopK.exitOut rfl))
  refine RX.x (OpR.callP pI (sg [(2000, 20), (2001, 120)]) LeA (.agg [.a 20 _, .a 120 _]) [(20, .own _ _ _), (120, .own _ _ _)]) rfl ?_
  ((repeat (first | (apply RX.kN; refine RX.x OpA rfl ?_) | (apply RX.kG; first | refine RX.y rfl rfl rfl GdA OpA ?_ | refine RX.n rfl rfl rfl GdA rfl rfl ?_ | refine RX.nU rfl rfl rfl rfl rfl ?_ | refine RX.nS rfl rfl rfl GdA rfl ?_))); (try apply RX.nil _ (by kernel_rfl)); repeat (first | apply TL.seq | ((first | apply TL.pl | apply TL.dr _ (by kernel_rfl)); (repeat (first | (apply RX.kN; refine RX.x OpA rfl ?_) | (apply RX.kG; first | refine RX.y rfl rfl rfl GdA OpA ?_ | refine RX.n rfl rfl rfl GdA rfl rfl ?_ | refine RX.nU rfl rfl rfl rfl rfl ?_ | refine RX.nS rfl rfl rfl GdA rfl ?_))); (try apply RX.nil _ (by kernel_rfl))) | (apply TL.kC; first | refine TL.condT rfl DecT ?_ | refine TL.condF rfl DecF ?_ | refine TL.condT rfl BoT ?_ | refine TL.condF rfl BoF ?_) | apply TL.block | apply TL.endB | apply TL.exit rfl | apply TL.exitOut rfl | apply TL.ret | apply TL.skip | apply TL.nil | apply loopK.exit rfl | apply loopK.ret | apply loopK.exitOut rfl))
  refine RX.x (OpR.callP pF (sg [(1000, 20), (1001, 120), (1002, 1001), (2000, 23)]) LeA (.a 23 _) [(23, .own _ _ _)]) rfl ?_
  ((repeat (first | (apply RX.kN; refine RX.x OpA rfl ?_) | (apply RX.kG; first | refine RX.y rfl rfl rfl GdA OpA ?_ | refine RX.n rfl rfl rfl GdA rfl rfl ?_ | refine RX.nU rfl rfl rfl rfl rfl ?_ | refine RX.nS rfl rfl rfl GdA rfl ?_))); (try apply RX.nil _ (by kernel_rfl)); repeat (first | apply TL.seq | ((first | apply TL.pl | apply TL.dr _ (by kernel_rfl)); (repeat (first | (apply RX.kN; refine RX.x OpA rfl ?_) | (apply RX.kG; first | refine RX.y rfl rfl rfl GdA OpA ?_ | refine RX.n rfl rfl rfl GdA rfl rfl ?_ | refine RX.nU rfl rfl rfl rfl rfl ?_ | refine RX.nS rfl rfl rfl GdA rfl ?_))); (try apply RX.nil _ (by kernel_rfl))) | (apply TL.kC; first | refine TL.condT rfl DecT ?_ | refine TL.condF rfl DecF ?_ | refine TL.condT rfl BoT ?_ | refine TL.condF rfl BoF ?_) | apply TL.block | apply TL.endB | apply TL.exit rfl | apply TL.exitOut rfl | apply TL.ret | apply TL.skip | apply TL.nil | apply loopK.exit rfl | apply loopK.ret | apply loopK.exitOut rfl))
  refine RX.x (OpR.callP pN (sg [(1000, 20), (1001, 120), (1002, 23), (2000, 22)]) LeA (.a 22 _) [(22, .own _ _ _)]) rfl ?_
  ((repeat (first | (apply RX.kN; refine RX.x OpA rfl ?_) | (apply RX.kG; first | refine RX.y rfl rfl rfl GdA OpA ?_ | refine RX.n rfl rfl rfl GdA rfl rfl ?_ | refine RX.nU rfl rfl rfl rfl rfl ?_ | refine RX.nS rfl rfl rfl GdA rfl ?_))); (try apply RX.nil _ (by kernel_rfl)); repeat (first | apply TL.seq | ((first | apply TL.pl | apply TL.dr _ (by kernel_rfl)); (repeat (first | (apply RX.kN; refine RX.x OpA rfl ?_) | (apply RX.kG; first | refine RX.y rfl rfl rfl GdA OpA ?_ | refine RX.n rfl rfl rfl GdA rfl rfl ?_ | refine RX.nU rfl rfl rfl rfl rfl ?_ | refine RX.nS rfl rfl rfl GdA rfl ?_))); (try apply RX.nil _ (by kernel_rfl))) | (apply TL.kC; first | refine TL.condT rfl DecT ?_ | refine TL.condF rfl DecF ?_ | refine TL.condT rfl BoT ?_ | refine TL.condF rfl BoF ?_) | apply TL.block | apply TL.endB | apply TL.exit rfl | apply TL.exitOut rfl | apply TL.ret | apply TL.skip | apply TL.nil | apply loopK.exit rfl | apply loopK.ret | apply loopK.exitOut rfl))
  refine TL.loop (ρ := fun i => i) (X := Nat) (fun k => ⟨[(2, iv n), (7, .p 7 0), (8, .a 23 x.length), (9, .a 22 s.length), (10, iv k)], [(7, .cells 25 [.a 20 s.length, .a 120 l.length]), (20, .own 2 eInt (N.take k ++ s.drop k)), (120, .own 44 eArc l), (23, .own 2 eInt x), (22, .own 49 eWide (wl N))]⟩) (fun k => k ≤ s.length) (fun k => s.length - k) 0 (by omega) LeI ?_
  intro k hk
  by_cases hlt : k < s.length
  · have hu := hNat k hlt
    have hub := hMb k hlt
    generalize netV k l x l.length = u at *
    have hu2 := wl_at hu
    have pb := back_s u
    rw [back_in2 (by omega) (by omega)] at pb
    have hSl : (N.take k ++ s.drop k).length = s.length := by simp; omega
    obtain ⟨w, hw3⟩ := at_ (l := N.take k ++ s.drop k) (k := k) (by omega)
    have hst := take_set_drop hu hlt
    (repeat (first | apply TL.seq | ((first | apply TL.pl | apply TL.dr _ (by kernel_rfl)); (repeat (first | (apply RX.kN; refine RX.x OpA rfl ?_) | (apply RX.kG; first | refine RX.y rfl rfl rfl GdA OpA ?_ | refine RX.n rfl rfl rfl GdA rfl rfl ?_ | refine RX.nU rfl rfl rfl rfl rfl ?_ | refine RX.nS rfl rfl rfl GdA rfl ?_))); (try apply RX.nil _ (by kernel_rfl))) | (apply TL.kC; first | refine TL.condT rfl DecT ?_ | refine TL.condF rfl DecF ?_ | refine TL.condT rfl BoT ?_ | refine TL.condF rfl BoF ?_) | apply TL.block | apply TL.endB | apply TL.exit rfl | apply TL.exitOut rfl | apply TL.ret | apply TL.skip | apply TL.nil | apply loopK.exit rfl | apply loopK.ret | apply loopK.exitOut rfl))
    (first | refine RX.x (OpR.callA (pb) (sg []) LeA) rfl ?_ | refine RX.y rfl rfl rfl GdA (OpR.callA (pb) (sg []) LeA) ?_); ((repeat (first | (apply RX.kN; refine RX.x OpA rfl ?_) | (apply RX.kG; first | refine RX.y rfl rfl rfl GdA OpA ?_ | refine RX.n rfl rfl rfl GdA rfl rfl ?_ | refine RX.nU rfl rfl rfl rfl rfl ?_ | refine RX.nS rfl rfl rfl GdA rfl ?_))); (try apply RX.nil _ (by kernel_rfl)); repeat (first | apply TL.seq | ((first | apply TL.pl | apply TL.dr _ (by kernel_rfl)); (repeat (first | (apply RX.kN; refine RX.x OpA rfl ?_) | (apply RX.kG; first | refine RX.y rfl rfl rfl GdA OpA ?_ | refine RX.n rfl rfl rfl GdA rfl rfl ?_ | refine RX.nU rfl rfl rfl rfl rfl ?_ | refine RX.nS rfl rfl rfl GdA rfl ?_))); (try apply RX.nil _ (by kernel_rfl))) | (apply TL.kC; first | refine TL.condT rfl DecT ?_ | refine TL.condF rfl DecF ?_ | refine TL.condT rfl BoT ?_ | refine TL.condF rfl BoF ?_) | apply TL.block | apply TL.endB | apply TL.exit rfl | apply TL.exitOut rfl | apply TL.ret | apply TL.skip | apply TL.nil | apply loopK.exit rfl | apply loopK.ret | apply loopK.exitOut rfl))
    exact loopK.normal ⟨k + 1, fun i => i, hlt, by omega, by rw [← hst]; exact LeI⟩
  obtain rfl : k = s.length := by omega
  have hN1 : N.take s.length ++ s.drop s.length = N := by rw [List.drop_length, List.append_nil, List.take_of_length_le (by omega)]
  rw [hN1]
  (repeat (first | apply TL.seq | ((first | apply TL.pl | apply TL.dr _ (by kernel_rfl)); (repeat (first | (apply RX.kN; refine RX.x OpA rfl ?_) | (apply RX.kG; first | refine RX.y rfl rfl rfl GdA OpA ?_ | refine RX.n rfl rfl rfl GdA rfl rfl ?_ | refine RX.nU rfl rfl rfl rfl rfl ?_ | refine RX.nS rfl rfl rfl GdA rfl ?_))); (try apply RX.nil _ (by kernel_rfl))) | (apply TL.kC; first | refine TL.condT rfl DecT ?_ | refine TL.condF rfl DecF ?_ | refine TL.condT rfl BoT ?_ | refine TL.condF rfl BoF ?_) | apply TL.block | apply TL.endB | apply TL.exit rfl | apply TL.exitOut rfl | apply TL.ret | apply TL.skip | apply TL.nil | apply loopK.exit rfl | apply loopK.ret | apply loopK.exitOut rfl))
  refine TL.loop (ρ := fun i => i) (X := Nat) (fun k => ⟨[(2, iv n), (7, .p 7 0), (8, .a 23 x.length), (13, iv k)], [(7, .cells 25 [.a 20 s.length, .a 120 l.length]), (20, .own 2 eInt N), (120, .own 44 eArc ((l.take k).map (rate r) ++ l.drop k)), (23, .own 2 eInt x)]⟩) (fun k => k ≤ l.length) (fun k => l.length - k) 0 (by omega) LeI ?_
  intro k hk
  by_cases hlt : k < l.length
  · obtain ⟨a, ha⟩ := at_ hlt
    have hst := map_set_drop (f := rate r) ha
    have hSl : ((l.take k).map (rate r) ++ l.drop k).length = l.length := by simp; omega
    have hak : ((l.take k).map (rate r) ++ l.drop k)[k]? = some a := by
      rw [at_app (by simp; omega) (by simp; omega)]
      rw [← ha, List.getElem_drop, List.getElem?_eq_getElem hlt]
      rfl
    (repeat (first | apply TL.seq | ((first | apply TL.pl | apply TL.dr _ (by kernel_rfl)); (repeat (first | (apply RX.kN; refine RX.x OpA rfl ?_) | (apply RX.kG; first | refine RX.y rfl rfl rfl GdA OpA ?_ | refine RX.n rfl rfl rfl GdA rfl rfl ?_ | refine RX.nU rfl rfl rfl rfl rfl ?_ | refine RX.nS rfl rfl rfl GdA rfl ?_))); (try apply RX.nil _ (by kernel_rfl))) | (apply TL.kC; first | refine TL.condT rfl DecT ?_ | refine TL.condF rfl DecF ?_ | refine TL.condT rfl BoT ?_ | refine TL.condF rfl BoF ?_) | apply TL.block | apply TL.endB | apply TL.exit rfl | apply TL.exitOut rfl | apply TL.ret | apply TL.skip | apply TL.nil | apply loopK.exit rfl | apply loopK.ret | apply loopK.exitOut rfl))
    refine RX.x (OpR.remK rfl rfl rfl (by decide) hr) rfl ?_
    ((repeat (first | (apply RX.kN; refine RX.x OpA rfl ?_) | (apply RX.kG; first | refine RX.y rfl rfl rfl GdA OpA ?_ | refine RX.n rfl rfl rfl GdA rfl rfl ?_ | refine RX.nU rfl rfl rfl rfl rfl ?_ | refine RX.nS rfl rfl rfl GdA rfl ?_))); (try apply RX.nil _ (by kernel_rfl)); repeat (first | apply TL.seq | ((first | apply TL.pl | apply TL.dr _ (by kernel_rfl)); (repeat (first | (apply RX.kN; refine RX.x OpA rfl ?_) | (apply RX.kG; first | refine RX.y rfl rfl rfl GdA OpA ?_ | refine RX.n rfl rfl rfl GdA rfl rfl ?_ | refine RX.nU rfl rfl rfl rfl rfl ?_ | refine RX.nS rfl rfl rfl GdA rfl ?_))); (try apply RX.nil _ (by kernel_rfl))) | (apply TL.kC; first | refine TL.condT rfl DecT ?_ | refine TL.condF rfl DecF ?_ | refine TL.condT rfl BoT ?_ | refine TL.condF rfl BoF ?_) | apply TL.block | apply TL.endB | apply TL.exit rfl | apply TL.exitOut rfl | apply TL.ret | apply TL.skip | apply TL.nil | apply loopK.exit rfl | apply loopK.ret | apply loopK.exitOut rfl))
    exact loopK.normal ⟨k + 1, fun i => i, hlt, by omega, by rw [← hst]; exact LeI⟩
  obtain rfl : k = l.length := by omega
  have hL1 : (l.take l.length).map (rate r) ++ l.drop l.length = l.map (rate r) := by rw [List.drop_length, List.append_nil, List.take_length]
  rw [hL1]
  (repeat (first | apply TL.seq | ((first | apply TL.pl | apply TL.dr _ (by kernel_rfl)); (repeat (first | (apply RX.kN; refine RX.x OpA rfl ?_) | (apply RX.kG; first | refine RX.y rfl rfl rfl GdA OpA ?_ | refine RX.n rfl rfl rfl GdA rfl rfl ?_ | refine RX.nU rfl rfl rfl rfl rfl ?_ | refine RX.nS rfl rfl rfl GdA rfl ?_))); (try apply RX.nil _ (by kernel_rfl))) | (apply TL.kC; first | refine TL.condT rfl DecT ?_ | refine TL.condF rfl DecF ?_ | refine TL.condT rfl BoT ?_ | refine TL.condF rfl BoF ?_) | apply TL.block | apply TL.endB | apply TL.exit rfl | apply TL.exitOut rfl | apply TL.ret | apply TL.skip | apply TL.nil | apply loopK.exit rfl | apply loopK.ret | apply loopK.exitOut rfl))
  (first | refine RX.x (OpR.callA (known09_s) (sg []) LeA) rfl ?_ | refine RX.y rfl rfl rfl GdA (OpR.callA (known09_s) (sg []) LeA) ?_); ((repeat (first | (apply RX.kN; refine RX.x OpA rfl ?_) | (apply RX.kG; first | refine RX.y rfl rfl rfl GdA OpA ?_ | refine RX.n rfl rfl rfl GdA rfl rfl ?_ | refine RX.nU rfl rfl rfl rfl rfl ?_ | refine RX.nS rfl rfl rfl GdA rfl ?_))); (try apply RX.nil _ (by kernel_rfl)); repeat (first | apply TL.seq | ((first | apply TL.pl | apply TL.dr _ (by kernel_rfl)); (repeat (first | (apply RX.kN; refine RX.x OpA rfl ?_) | (apply RX.kG; first | refine RX.y rfl rfl rfl GdA OpA ?_ | refine RX.n rfl rfl rfl GdA rfl rfl ?_ | refine RX.nU rfl rfl rfl rfl rfl ?_ | refine RX.nS rfl rfl rfl GdA rfl ?_))); (try apply RX.nil _ (by kernel_rfl))) | (apply TL.kC; first | refine TL.condT rfl DecT ?_ | refine TL.condF rfl DecF ?_ | refine TL.condT rfl BoT ?_ | refine TL.condF rfl BoF ?_) | apply TL.block | apply TL.endB | apply TL.exit rfl | apply TL.exitOut rfl | apply TL.ret | apply TL.skip | apply TL.nil | apply loopK.exit rfl | apply loopK.ret | apply loopK.exitOut rfl))
  (first | refine RX.x (OpR.callA (pZ) (sg [(1000, 20), (1001, 120), (1002, 23)]) LeA) rfl ?_ | refine RX.y rfl rfl rfl GdA (OpR.callA (pZ) (sg [(1000, 20), (1001, 120), (1002, 23)]) LeA) ?_); ((repeat (first | (apply RX.kN; refine RX.x OpA rfl ?_) | (apply RX.kG; first | refine RX.y rfl rfl rfl GdA OpA ?_ | refine RX.n rfl rfl rfl GdA rfl rfl ?_ | refine RX.nU rfl rfl rfl rfl rfl ?_ | refine RX.nS rfl rfl rfl GdA rfl ?_))); (try apply RX.nil _ (by kernel_rfl)); repeat (first | apply TL.seq | ((first | apply TL.pl | apply TL.dr _ (by kernel_rfl)); (repeat (first | (apply RX.kN; refine RX.x OpA rfl ?_) | (apply RX.kG; first | refine RX.y rfl rfl rfl GdA OpA ?_ | refine RX.n rfl rfl rfl GdA rfl rfl ?_ | refine RX.nU rfl rfl rfl rfl rfl ?_ | refine RX.nS rfl rfl rfl GdA rfl ?_))); (try apply RX.nil _ (by kernel_rfl))) | (apply TL.kC; first | refine TL.condT rfl DecT ?_ | refine TL.condF rfl DecF ?_ | refine TL.condT rfl BoT ?_ | refine TL.condF rfl BoF ?_) | apply TL.block | apply TL.endB | apply TL.exit rfl | apply TL.exitOut rfl | apply TL.ret | apply TL.skip | apply TL.nil | apply loopK.exit rfl | apply loopK.ret | apply loopK.exitOut rfl))
  first | exact retK.v rfl | exact retK.v (vBool DecT)
end Go.Proofs.Ytiboffhdabeiiaa
