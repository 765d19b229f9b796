/-
  PriceShift; by symbolic steps.
-/
import Derived.Test.YtiboffhdabeiiaaPrF
namespace Go.Proofs.Ytiboffhdabeiiaa
open Go Go.RowKit
theorem shift_s (pot : List Int) (n : Int) (hl : pot.length ≤ 1000000) (hp : ∀ v ∈ pot, -9223372036854775808 ≤ v ∧ v ≤ 9223372036854775807) (hn : -9223372036854775808 ≤ n ∧ n ≤ 9223372036854775807) (hs : ∀ v ∈ pot, -9223372036854775808 ≤ v + n ∧ v + n ≤ 9223372036854775807) :
    Spec Try.prog 60 [.a 1000 pot.length, iv n] [(1000, .ro eInt pot)] (.tup [.a 2000 pot.length, bv true]) [(2000, .own 2 eInt (pot.map (· + n)))] := by
  have nt1 : (!true) = false := rfl
  have hml : (pot.map (· + n)).length = pot.length := by simp
  have hat : ∀ (k : Nat) v, pot[k]? = some v → (pot.map (· + n))[k]? = some (v + n) := fun k v h => by rw [List.getElem?_map, h]; rfl
  generalize pot.map (· + n) = M at *
  refine Spec.mk [] Try.call60 Try.func60 Try.ntmps60 Try.results60 rfl (by kernel_rfl) (by kernel_rfl) ?_
  (repeat (first | apply TL.seq | ((first | apply TL.pl | apply TL.dr _ (by kernel_rfl)); (repeat (first | (apply RX.kN; refine RX.x OpA rfl ?_) | (apply RX.kG; first | refine RX.y rfl rfl rfl GdA OpA ?_ | refine RX.n rfl rfl rfl GdA rfl rfl ?_ | refine RX.nU rfl rfl rfl rfl rfl ?_ | refine RX.nS rfl rfl rfl GdA rfl ?_))); (try apply RX.nil _ (by kernel_rfl))) | (apply TL.kC; first | refine TL.condT rfl DecT ?_ | refine TL.condF rfl DecF ?_ | refine TL.condT rfl BoT ?_ | refine TL.condF rfl BoF ?_) | apply TL.block | apply TL.endB | apply TL.exit rfl | apply TL.exitOut rfl | apply TL.ret | apply TL.skip | apply TL.nil | apply loopK.exit rfl | apply loopK.ret | apply loopK.exitOut rfl))
  refine TL.viewNil 6 3000 2 eInt rfl rfl rfl ?_
  refine TL.loop (ρ := fun i => i) (X := Nat) (fun k => ⟨[(1, iv n), (6, .a 3000 (M.take k).length), (11, .a 1000 pot.length), (12, iv pot.length), (13, iv k)], [(1000, .ro eInt pot), (3000, .own 2 eInt (M.take k))]⟩) (fun k => k ≤ pot.length) (fun k => pot.length - k) 0 (by omega) LeI ?_
  intro k hk
  by_cases hlt : k < pot.length
  · obtain ⟨v, hv⟩ := at_ hlt
    have hvm := List.mem_of_getElem? hv
    have h1 := hp v hvm
    have h2 := hs v hvm
    have hst := take_snoc (hat k v hv)
    have pa := add_s v n h1.1 h1.2 hn.1 hn.2
    rw [back_in2 h2.1 h2.2] at pa
    have hle : (M.take k).length ≤ 1000000 := by simp; omega
    generalize M.take k = L at *
    (repeat (first | apply TL.seq | ((first | apply TL.pl | apply TL.dr _ (by kernel_rfl)); (repeat (first | (apply RX.kN; refine RX.x OpA rfl ?_) | (apply RX.kG; first | refine RX.y rfl rfl rfl GdA OpA ?_ | refine RX.n rfl rfl rfl GdA rfl rfl ?_ | refine RX.nU rfl rfl rfl rfl rfl ?_ | refine RX.nS rfl rfl rfl GdA rfl ?_))); (try apply RX.nil _ (by kernel_rfl))) | (apply TL.kC; first | refine TL.condT rfl DecT ?_ | refine TL.condF rfl DecF ?_ | refine TL.condT rfl BoT ?_ | refine TL.condF rfl BoF ?_) | apply TL.block | apply TL.endB | apply TL.exit rfl | apply TL.exitOut rfl | apply TL.ret | apply TL.skip | apply TL.nil | apply loopK.exit rfl | apply loopK.ret | apply loopK.exitOut rfl))
    (first | refine RX.x (OpR.callA (pa) (sg []) LeA) rfl ?_ | refine RX.y rfl rfl rfl GdA (OpR.callA (pa) (sg []) LeA) ?_); ((repeat (first | (apply RX.kN; refine RX.x OpA rfl ?_) | (apply RX.kG; first | refine RX.y rfl rfl rfl GdA OpA ?_ | refine RX.n rfl rfl rfl GdA rfl rfl ?_ | refine RX.nU rfl rfl rfl rfl rfl ?_ | refine RX.nS rfl rfl rfl GdA rfl ?_))); (try apply RX.nil _ (by kernel_rfl)); repeat (first | apply TL.seq | ((first | apply TL.pl | apply TL.dr _ (by kernel_rfl)); (repeat (first | (apply RX.kN; refine RX.x OpA rfl ?_) | (apply RX.kG; first | refine RX.y rfl rfl rfl GdA OpA ?_ | refine RX.n rfl rfl rfl GdA rfl rfl ?_ | refine RX.nU rfl rfl rfl rfl rfl ?_ | refine RX.nS rfl rfl rfl GdA rfl ?_))); (try apply RX.nil _ (by kernel_rfl))) | (apply TL.kC; first | refine TL.condT rfl DecT ?_ | refine TL.condF rfl DecF ?_ | refine TL.condT rfl BoT ?_ | refine TL.condF rfl BoF ?_) | apply TL.block | apply TL.endB | apply TL.exit rfl | apply TL.exitOut rfl | apply TL.ret | apply TL.skip | apply TL.nil | apply loopK.exit rfl | apply loopK.ret | apply loopK.exitOut rfl))
    exact loopK.normal ⟨k + 1, _, hlt, by omega, LeR (sg [(3000, 28)]) (by rw [hst, List.length_append]; exact LeSA) (by rw [hst]; exact LeA)⟩
  · obtain rfl : k = pot.length := by omega
    rw [List.take_of_length_le (by omega), hml]
    (repeat (first | apply TL.seq | ((first | apply TL.pl | apply TL.dr _ (by kernel_rfl)); (repeat (first | (apply RX.kN; refine RX.x OpA rfl ?_) | (apply RX.kG; first | refine RX.y rfl rfl rfl GdA OpA ?_ | refine RX.n rfl rfl rfl GdA rfl rfl ?_ | refine RX.nU rfl rfl rfl rfl rfl ?_ | refine RX.nS rfl rfl rfl GdA rfl ?_))); (try apply RX.nil _ (by kernel_rfl))) | (apply TL.kC; first | refine TL.condT rfl DecT ?_ | refine TL.condF rfl DecF ?_ | refine TL.condT rfl BoT ?_ | refine TL.condF rfl BoF ?_) | apply TL.block | apply TL.endB | apply TL.exit rfl | apply TL.exitOut rfl | apply TL.ret | apply TL.skip | apply TL.nil | apply loopK.exit rfl | apply loopK.ret | apply loopK.exitOut rfl))
    exact retK.two (sg [(2000, 3000)]) rfl rfl LeA
section
variable {pot s : List Int} {l : List PArc} {n : Int}
theorem po_shift {v : Nat} (hv : v < pot.length) : po (pot.map (· + n)) v = po pot v + n := by
  obtain ⟨u, hu⟩ := at_ hv
  rw [po_at hu, po_at (u := u + n) (by rw [List.getElem?_map, hu]; rfl)]
theorem tm_shift (a : PArc) (u v t : Int) : tmV a (u + n) (v + n) t = tmV a u v t := by
  unfold tmV
  rw [Int.mul_add, Int.mul_add]
  omega
theorem arc_shift {a : PArc} (hw : wholeB pot.length a = true) : (∀ t, tmV a (po (pot.map (· + n)) a.fr.toNat) (po (pot.map (· + n)) a.dt.toNat) t = tmV a (po pot a.fr.toNat) (po pot a.dt.toNat) t) ∧ sgV a (po (pot.map (· + n)) a.fr.toNat) (po (pot.map (· + n)) a.dt.toNat) = sgV a (po pot a.fr.toNat) (po pot a.dt.toNat) := by
  simp only [wholeB, decide_eq_true_eq] at hw
  rw [po_shift (by omega), po_shift (by omega)]
  refine ⟨fun t => tm_shift a _ _ t, ?_⟩
  unfold sgV
  rw [tm_shift]
theorem nd_shift {a : PArc} (hw : wholeB pot.length a = true) : ndA (pot.map (· + n)) a = ndA pot a := by
  unfold ndA sgA
  rw [(arc_shift hw).2]
theorem sup_shift (hl : pot.length = s.length) (k : Nat) (hk : k ≤ s.length) : supP (pot.map (· + n)) s k = supP pot s k + n * (s.take k).sum := by
  induction k with
  | zero => simp [supP]
  | succ k ih =>
    obtain ⟨u, hu⟩ := at_ (l := s) (k := k) (by omega)
    rw [supP, supP, ih (by omega), take_snoc hu, List.sum_append, getD_at hu, po_shift (by omega), Int.mul_add, Int.mul_add]
    simp only [List.sum_cons, List.sum_nil, Int.add_zero]
    rw [Int.mul_comm n u]
    omega
theorem bnd_shift (hl : pot.length = s.length) (hs : s.sum = 0) (k : Nat) : bndV (pot.map (· + n)) s l k = bndV pot s l k := by
  induction k with
  | zero => rw [bndV, bndV, sup_shift hl _ (Nat.le_refl _), List.take_length, hs]; simp
  | succ k ih =>
    cases ha : l[k]? with
    | none => rw [bndV, bndV, ha]; exact ih
    | some a =>
      cases hw : wholeB s.length a with
      | false => rw [bndV_no ha hw, bndV_no ha hw, ih]
      | true => rw [bndV_yes ha hw, bndV_yes ha hw, ih, (arc_shift (by rw [hl]; exact hw)).1, nd_shift (by rw [hl]; exact hw)]
theorem noB_shift (hl : pot.length = s.length) : noB s.length (pot.map (· + n)) l = noB s.length pot l := by
  unfold noB
  congr 1
  funext a
  cases hw : wholeB s.length a with
  | false => rfl
  | true => rw [nd_shift (by rw [hl]; exact hw)]
theorem any_shift {x : List Int} (hl : pot.length = s.length) : anyS s.length l (pot.map (· + n)) x = anyS s.length l pot x := by
  unfold anyS
  congr 1
  funext k
  cases l[k]? with
  | none => rfl
  | some a =>
    dsimp only
    cases hw : wholeB s.length a with
    | false => rfl
    | true =>
      unfold skB
      rw [(arc_shift (by rw [hl]; exact hw)).2]
theorem slack_shift {x : List Int} (hl : pot.length = s.length) : slackN s l x (pot.map (· + n)) = slackN s l x pot := by
  unfold slackN
  rw [any_shift hl, List.length_map]
end
set_option maxHeartbeats 2000000 in
theorem priceShift_s (c d e : List Nat) (n : Int) (x : List Int) (hc : ∀ x ∈ c, x < 256) (hd : ∀ x ∈ d, x < 256) (he : ∀ x ∈ e, x < 256) (hn1 : -2147483648 ≤ n) (hn2 : n ≤ 2147483647) (hx : ∀ n ∈ x, -9223372036854775808 ≤ n ∧ n ≤ 9223372036854775807) (h1 : c.length ≤ 9223372036854775807) (h2 : d.length ≤ 9223372036854775807) (h3 : e.length ≤ 9223372036854775807) :
    Spec Try.prog 15 [.a 1000 c.length, .a 1001 d.length, .a 1002 e.length, .v (.int .i32 n), .a 1003 x.length] [(1000, .ro eByt c), (1001, .ro eByt d), (1002, .ro eByt e), (1003, .ro eInt x)] (bv true) [] := by
  have ttt : true = true := rfl
  have nt1 : (!true) = false := rfl
  have hT := tame_inst c d
  have hn := nOf_range d
  have hsl := instS_len c d
  have hss := instS_sum c d
  have pI := inst_s c d hc hd h1 h2
  generalize instS c d = s at *
  generalize arcsN c (nOf d) = l at *
  generalize nOf d = N at *
  subst hsl
  have hT1 := hT.sl
  have hT2 := hT.ll
  have pP := pot_s e s.length (by omega) he h3
  have hpl := potTo_len e s.length
  have hpb := potTo_i64 e he s.length
  generalize potTo e s.length = pot at *
  have pS := shift_s pot n (by omega) (fun v h => by have := hpb v h; omega) (by omega) (fun v h => by have := hpb v h; omega)
  have hb : ∀ v ∈ pot.map (· + n), -9223372036854775808 ≤ v ∧ v ≤ 9223372036854775807 := by
    intro v h
    obtain ⟨u, hu, rfl⟩ := List.mem_map.1 h
    have := hpb u hu
    omega
  have hml : (pot.map (· + n)).length = pot.length := by simp
  have pS2 := shift_s (pot.map (· + n)) (-n) (by omega) hb (by omega) (fun v h => by
    obtain ⟨u, hu, rfl⟩ := List.mem_map.1 h
    have := hpb u hu
    omega)
  have hback : (pot.map (· + n)).map (· + -n) = pot := by
    apply List.ext_getElem?
    intro k
    rw [List.getElem?_map, List.getElem?_map]
    cases pot[k]? with
    | none => rfl
    | some v =>
      simp only [Option.map_some, Option.some.injEq]
      omega
  rw [hback, hml] at pS2
  have q1 : ∀ v, i64 (po pot v) := po_i64 (fun v h => by have := hpb v h; omega)
  have q2 : ∀ v, i64 (po (pot.map (· + n)) v) := po_i64 hb
  have s1 := slack_s s l x pot (by omega) (by omega) (by omega) hx hT.s64 (fun a ha => (hT.c a ha).1) q1
  have s2 := slack_s s l x (pot.map (· + n)) (by omega) (by omega) (by omega) hx hT.s64 (fun a ha => (hT.c a ha).1) q2
  rw [slack_shift hpl, hml, hpl] at s2
  rw [hpl] at s1
  generalize slackN s l x pot = Sv at *
  have r1 := fun (k : Nat) a (ha : l[k]? = some a) => reduced_yes s l pot k a (by omega) ha (hT.wh a (List.mem_of_getElem? ha)) (hT.c a (List.mem_of_getElem? ha)).1 q1
  have r2 := fun (k : Nat) a (ha : l[k]? = some a) => reduced_yes s l (pot.map (· + n)) k a (by omega) ha (hT.wh a (List.mem_of_getElem? ha)) (hT.c a (List.mem_of_getElem? ha)).1 q2
  have r3 := fun (k : Nat) a (ha : l[k]? = some a) => (arc_shift (n := n) (pot := pot) (a := a) (by rw [hpl]; exact hT.wh a (List.mem_of_getElem? ha))).1 1
  obtain ⟨V, B, pb1, pb2⟩ : ∃ (V : Int) (B : Bool), Spec Try.prog 63 [vI s l, .a 1002 pot.length] (hI s l ++ hP pot) (.tup [wd V, bv B]) [] ∧ Spec Try.prog 63 [vI s l, .a 1002 (pot.map (· + n)).length] (hI s l ++ hP (pot.map (· + n))) (.tup [wd V, bv B]) [] := by
    cases hnB : noB s.length pot l with
    | true => exact ⟨0, false, boundN_ s l pot (by omega) (by omega) hT.s64 hT.c q1 hnB, boundN_ s l _ (by omega) (by omega) hT.s64 hT.c q2 (by rw [noB_shift hpl]; exact hnB)⟩
    | false =>
      refine ⟨bndV pot s l l.length, true, boundY s l pot (by omega) (by omega) hT.s64 hT.c q1 hnB, ?_⟩
      have := boundY s l (pot.map (· + n)) (by omega) (by omega) hT.s64 hT.c q2 (by rw [noB_shift hpl]; exact hnB)
      rw [bnd_shift hpl hss] at this
      exact this
  have pN := nums_s pot pot (by omega)
  rw [dT (rfl : pot = pot)] at pN
  generalize hM : pot.map (· + n) = M at *
  rw [hml] at pb2
  rw [hpl] at pP pS pS2 pb1 pb2 pN
  have e0 : (toW V).hi = (toW V).hi ∧ (toW V).lo = (toW V).lo := ⟨rfl, rfl⟩
  have eB : B = B := rfl
  have eS : (Sv : Int) = Sv := rfl
  unfold vI hI at pb1 pb2 s1 s2
  refine Spec.mk [] Try.call15 Try.func15 Try.ntmps15 Try.results15 rfl (by kernel_rfl) (by kernel_rfl) ?_
  (repeat (first | apply TL.seq | ((first | apply TL.pl | apply TL.dr _ (by kernel_rfl)); (repeat (first | (apply RX.kN; refine RX.x OpA rfl ?_) | (apply RX.kG; first | refine RX.y rfl rfl rfl GdA OpA ?_ | refine RX.n rfl rfl rfl GdA rfl rfl ?_ | refine RX.nU rfl rfl rfl rfl rfl ?_ | refine RX.nS rfl rfl rfl GdA rfl ?_))); (try apply RX.nil _ (by kernel_rfl))) | (apply TL.kC; first | refine TL.condT rfl DecT ?_ | refine TL.condF rfl DecF ?_ | refine TL.condT rfl BoT ?_ | refine TL.condF rfl BoF ?_) | apply TL.block | apply TL.endB | apply TL.exit rfl | apply TL.exitOut rfl | apply TL.ret | apply TL.skip | apply TL.nil | apply loopK.exit rfl | apply loopK.ret | apply loopK.exitOut rfl))
  refine RX.x (OpR.callP pI (sg [(2000, 24), (2001, 124)]) LeA (.agg [.a 24 _, .a 124 _]) [(24, .own _ _ _), (124, .own _ _ _)]) rfl ?_
  ((repeat (first | (apply RX.kN; refine RX.x OpA rfl ?_) | (apply RX.kG; first | refine RX.y rfl rfl rfl GdA OpA ?_ | refine RX.n rfl rfl rfl GdA rfl rfl ?_ | refine RX.nU rfl rfl rfl rfl rfl ?_ | refine RX.nS rfl rfl rfl GdA rfl ?_))); (try apply RX.nil _ (by kernel_rfl)); repeat (first | apply TL.seq | ((first | apply TL.pl | apply TL.dr _ (by kernel_rfl)); (repeat (first | (apply RX.kN; refine RX.x OpA rfl ?_) | (apply RX.kG; first | refine RX.y rfl rfl rfl GdA OpA ?_ | refine RX.n rfl rfl rfl GdA rfl rfl ?_ | refine RX.nU rfl rfl rfl rfl rfl ?_ | refine RX.nS rfl rfl rfl GdA rfl ?_))); (try apply RX.nil _ (by kernel_rfl))) | (apply TL.kC; first | refine TL.condT rfl DecT ?_ | refine TL.condF rfl DecF ?_ | refine TL.condT rfl BoT ?_ | refine TL.condF rfl BoF ?_) | apply TL.block | apply TL.endB | apply TL.exit rfl | apply TL.exitOut rfl | apply TL.ret | apply TL.skip | apply TL.nil | apply loopK.exit rfl | apply loopK.ret | apply loopK.exitOut rfl))
  refine RX.x (OpR.callP pP (sg [(1000, 1002), (2000, 29)]) LeA (.a 29 _) [(29, .own _ _ _)]) rfl ?_
  ((repeat (first | (apply RX.kN; refine RX.x OpA rfl ?_) | (apply RX.kG; first | refine RX.y rfl rfl rfl GdA OpA ?_ | refine RX.n rfl rfl rfl GdA rfl rfl ?_ | refine RX.nU rfl rfl rfl rfl rfl ?_ | refine RX.nS rfl rfl rfl GdA rfl ?_))); (try apply RX.nil _ (by kernel_rfl)); repeat (first | apply TL.seq | ((first | apply TL.pl | apply TL.dr _ (by kernel_rfl)); (repeat (first | (apply RX.kN; refine RX.x OpA rfl ?_) | (apply RX.kG; first | refine RX.y rfl rfl rfl GdA OpA ?_ | refine RX.n rfl rfl rfl GdA rfl rfl ?_ | refine RX.nU rfl rfl rfl rfl rfl ?_ | refine RX.nS rfl rfl rfl GdA rfl ?_))); (try apply RX.nil _ (by kernel_rfl))) | (apply TL.kC; first | refine TL.condT rfl DecT ?_ | refine TL.condF rfl DecF ?_ | refine TL.condT rfl BoT ?_ | refine TL.condF rfl BoF ?_) | apply TL.block | apply TL.endB | apply TL.exit rfl | apply TL.exitOut rfl | apply TL.ret | apply TL.skip | apply TL.nil | apply loopK.exit rfl | apply loopK.ret | apply loopK.exitOut rfl))
  refine RX.x (OpR.callP pS (sg [(1000, 29), (2000, 34)]) LeA (.tup [.a 34 _, bv true]) [(34, .own _ _ _)]) rfl ?_
  ((repeat (first | (apply RX.kN; refine RX.x OpA rfl ?_) | (apply RX.kG; first | refine RX.y rfl rfl rfl GdA OpA ?_ | refine RX.n rfl rfl rfl GdA rfl rfl ?_ | refine RX.nU rfl rfl rfl rfl rfl ?_ | refine RX.nS rfl rfl rfl GdA rfl ?_))); (try apply RX.nil _ (by kernel_rfl)); repeat (first | apply TL.seq | ((first | apply TL.pl | apply TL.dr _ (by kernel_rfl)); (repeat (first | (apply RX.kN; refine RX.x OpA rfl ?_) | (apply RX.kG; first | refine RX.y rfl rfl rfl GdA OpA ?_ | refine RX.n rfl rfl rfl GdA rfl rfl ?_ | refine RX.nU rfl rfl rfl rfl rfl ?_ | refine RX.nS rfl rfl rfl GdA rfl ?_))); (try apply RX.nil _ (by kernel_rfl))) | (apply TL.kC; first | refine TL.condT rfl DecT ?_ | refine TL.condF rfl DecF ?_ | refine TL.condT rfl BoT ?_ | refine TL.condF rfl BoF ?_) | apply TL.block | apply TL.endB | apply TL.exit rfl | apply TL.exitOut rfl | apply TL.ret | apply TL.skip | apply TL.nil | apply loopK.exit rfl | apply loopK.ret | apply loopK.exitOut rfl))
  refine TL.loop (ρ := fun i => i) (X := Nat) (fun k => ⟨[(3, .v (.int .i32 n)), (4, .a 1003 x.length), (11, .p 11 0), (12, .a 29 s.length), (13, .a 34 s.length), (15, iv k)], [(1003, .ro eInt x), (11, .cells 25 [.a 24 s.length, .a 124 l.length]), (24, .ro eInt s), (124, .ro eArc l), (29, .ro eInt pot), (34, .ro eInt M)]⟩) (fun k => k ≤ l.length) (fun k => l.length - k) 0 (by omega) LeI ?_
  intro k hk
  by_cases hlt : k < l.length
  · obtain ⟨a, ha⟩ := at_ hlt
    have t1 := r1 k a ha
    have t2 := r2 k a ha
    rw [r3 k a ha, hml, hpl] at t2
    rw [hpl] at t1
    generalize tmV a (po pot a.fr.toNat) (po pot a.dt.toNat) 1 = T at *
    have eT : ¬ ¬ ((toW T).hi = (toW T).hi ∧ (toW T).lo = (toW T).lo) := fun h => h ⟨rfl, rfl⟩
    unfold vI hI at t1 t2
    (repeat (first | apply TL.seq | ((first | apply TL.pl | apply TL.dr _ (by kernel_rfl)); (repeat (first | (apply RX.kN; refine RX.x OpA rfl ?_) | (apply RX.kG; first | refine RX.y rfl rfl rfl GdA OpA ?_ | refine RX.n rfl rfl rfl GdA rfl rfl ?_ | refine RX.nU rfl rfl rfl rfl rfl ?_ | refine RX.nS rfl rfl rfl GdA rfl ?_))); (try apply RX.nil _ (by kernel_rfl))) | (apply TL.kC; first | refine TL.condT rfl DecT ?_ | refine TL.condF rfl DecF ?_ | refine TL.condT rfl BoT ?_ | refine TL.condF rfl BoF ?_) | apply TL.block | apply TL.endB | apply TL.exit rfl | apply TL.exitOut rfl | apply TL.ret | apply TL.skip | apply TL.nil | apply loopK.exit rfl | apply loopK.ret | apply loopK.exitOut rfl))
    (first | refine RX.x (OpR.callA (t1) (sg [(1000, 24), (1001, 124), (1002, 29)]) LeA) rfl ?_ | refine RX.y rfl rfl rfl GdA (OpR.callA (t1) (sg [(1000, 24), (1001, 124), (1002, 29)]) LeA) ?_); ((repeat (first | (apply RX.kN; refine RX.x OpA rfl ?_) | (apply RX.kG; first | refine RX.y rfl rfl rfl GdA OpA ?_ | refine RX.n rfl rfl rfl GdA rfl rfl ?_ | refine RX.nU rfl rfl rfl rfl rfl ?_ | refine RX.nS rfl rfl rfl GdA rfl ?_))); (try apply RX.nil _ (by kernel_rfl)); repeat (first | apply TL.seq | ((first | apply TL.pl | apply TL.dr _ (by kernel_rfl)); (repeat (first | (apply RX.kN; refine RX.x OpA rfl ?_) | (apply RX.kG; first | refine RX.y rfl rfl rfl GdA OpA ?_ | refine RX.n rfl rfl rfl GdA rfl rfl ?_ | refine RX.nU rfl rfl rfl rfl rfl ?_ | refine RX.nS rfl rfl rfl GdA rfl ?_))); (try apply RX.nil _ (by kernel_rfl))) | (apply TL.kC; first | refine TL.condT rfl DecT ?_ | refine TL.condF rfl DecF ?_ | refine TL.condT rfl BoT ?_ | refine TL.condF rfl BoF ?_) | apply TL.block | apply TL.endB | apply TL.exit rfl | apply TL.exitOut rfl | apply TL.ret | apply TL.skip | apply TL.nil | apply loopK.exit rfl | apply loopK.ret | apply loopK.exitOut rfl))
    (first | refine RX.x (OpR.callA (t2) (sg [(1000, 24), (1001, 124), (1002, 34)]) LeA) rfl ?_ | refine RX.y rfl rfl rfl GdA (OpR.callA (t2) (sg [(1000, 24), (1001, 124), (1002, 34)]) LeA) ?_); ((repeat (first | (apply RX.kN; refine RX.x OpA rfl ?_) | (apply RX.kG; first | refine RX.y rfl rfl rfl GdA OpA ?_ | refine RX.n rfl rfl rfl GdA rfl rfl ?_ | refine RX.nU rfl rfl rfl rfl rfl ?_ | refine RX.nS rfl rfl rfl GdA rfl ?_))); (try apply RX.nil _ (by kernel_rfl)); repeat (first | apply TL.seq | ((first | apply TL.pl | apply TL.dr _ (by kernel_rfl)); (repeat (first | (apply RX.kN; refine RX.x OpA rfl ?_) | (apply RX.kG; first | refine RX.y rfl rfl rfl GdA OpA ?_ | refine RX.n rfl rfl rfl GdA rfl rfl ?_ | refine RX.nU rfl rfl rfl rfl rfl ?_ | refine RX.nS rfl rfl rfl GdA rfl ?_))); (try apply RX.nil _ (by kernel_rfl))) | (apply TL.kC; first | refine TL.condT rfl DecT ?_ | refine TL.condF rfl DecF ?_ | refine TL.condT rfl BoT ?_ | refine TL.condF rfl BoF ?_) | apply TL.block | apply TL.endB | apply TL.exit rfl | apply TL.exitOut rfl | apply TL.ret | apply TL.skip | apply TL.nil | apply loopK.exit rfl | apply loopK.ret | apply loopK.exitOut rfl))
    exact loopK.normal ⟨k + 1, fun i => i, hlt, by omega, LeI⟩
  obtain rfl : k = l.length := by omega
  (repeat (first | apply TL.seq | ((first | apply TL.pl | apply TL.dr _ (by kernel_rfl)); (repeat (first | (apply RX.kN; refine RX.x OpA rfl ?_) | (apply RX.kG; first | refine RX.y rfl rfl rfl GdA OpA ?_ | refine RX.n rfl rfl rfl GdA rfl rfl ?_ | refine RX.nU rfl rfl rfl rfl rfl ?_ | refine RX.nS rfl rfl rfl GdA rfl ?_))); (try apply RX.nil _ (by kernel_rfl))) | (apply TL.kC; first | refine TL.condT rfl DecT ?_ | refine TL.condF rfl DecF ?_ | refine TL.condT rfl BoT ?_ | refine TL.condF rfl BoF ?_) | apply TL.block | apply TL.endB | apply TL.exit rfl | apply TL.exitOut rfl | apply TL.ret | apply TL.skip | apply TL.nil | apply loopK.exit rfl | apply loopK.ret | apply loopK.exitOut rfl))
  (first | refine RX.x (OpR.callA (pb1) (sg [(1000, 24), (1001, 124), (1002, 29)]) LeA) rfl ?_ | refine RX.y rfl rfl rfl GdA (OpR.callA (pb1) (sg [(1000, 24), (1001, 124), (1002, 29)]) LeA) ?_); ((repeat (first | (apply RX.kN; refine RX.x OpA rfl ?_) | (apply RX.kG; first | refine RX.y rfl rfl rfl GdA OpA ?_ | refine RX.n rfl rfl rfl GdA rfl rfl ?_ | refine RX.nU rfl rfl rfl rfl rfl ?_ | refine RX.nS rfl rfl rfl GdA rfl ?_))); (try apply RX.nil _ (by kernel_rfl)); repeat (first | apply TL.seq | ((first | apply TL.pl | apply TL.dr _ (by kernel_rfl)); (repeat (first | (apply RX.kN; refine RX.x OpA rfl ?_) | (apply RX.kG; first | refine RX.y rfl rfl rfl GdA OpA ?_ | refine RX.n rfl rfl rfl GdA rfl rfl ?_ | refine RX.nU rfl rfl rfl rfl rfl ?_ | refine RX.nS rfl rfl rfl GdA rfl ?_))); (try apply RX.nil _ (by kernel_rfl))) | (apply TL.kC; first | refine TL.condT rfl DecT ?_ | refine TL.condF rfl DecF ?_ | refine TL.condT rfl BoT ?_ | refine TL.condF rfl BoF ?_) | apply TL.block | apply TL.endB | apply TL.exit rfl | apply TL.exitOut rfl | apply TL.ret | apply TL.skip | apply TL.nil | apply loopK.exit rfl | apply loopK.ret | apply loopK.exitOut rfl))
  (first | refine RX.x (OpR.callA (pb2) (sg [(1000, 24), (1001, 124), (1002, 34)]) LeA) rfl ?_ | refine RX.y rfl rfl rfl GdA (OpR.callA (pb2) (sg [(1000, 24), (1001, 124), (1002, 34)]) LeA) ?_); ((repeat (first | (apply RX.kN; refine RX.x OpA rfl ?_) | (apply RX.kG; first | refine RX.y rfl rfl rfl GdA OpA ?_ | refine RX.n rfl rfl rfl GdA rfl rfl ?_ | refine RX.nU rfl rfl rfl rfl rfl ?_ | refine RX.nS rfl rfl rfl GdA rfl ?_))); (try apply RX.nil _ (by kernel_rfl)); repeat (first | apply TL.seq | ((first | apply TL.pl | apply TL.dr _ (by kernel_rfl)); (repeat (first | (apply RX.kN; refine RX.x OpA rfl ?_) | (apply RX.kG; first | refine RX.y rfl rfl rfl GdA OpA ?_ | refine RX.n rfl rfl rfl GdA rfl rfl ?_ | refine RX.nU rfl rfl rfl rfl rfl ?_ | refine RX.nS rfl rfl rfl GdA rfl ?_))); (try apply RX.nil _ (by kernel_rfl))) | (apply TL.kC; first | refine TL.condT rfl DecT ?_ | refine TL.condF rfl DecF ?_ | refine TL.condT rfl BoT ?_ | refine TL.condF rfl BoF ?_) | apply TL.block | apply TL.endB | apply TL.exit rfl | apply TL.exitOut rfl | apply TL.ret | apply TL.skip | apply TL.nil | apply loopK.exit rfl | apply loopK.ret | apply loopK.exitOut rfl))
  refine RX.x (OpR.callP pS2 (sg [(1000, 34), (2000, 79)]) LeA (.tup [.a 79 _, bv true]) [(79, .own _ _ _)]) rfl ?_
  ((repeat (first | (apply RX.kN; refine RX.x OpA rfl ?_) | (apply RX.kG; first | refine RX.y rfl rfl rfl GdA OpA ?_ | refine RX.n rfl rfl rfl GdA rfl rfl ?_ | refine RX.nU rfl rfl rfl rfl rfl ?_ | refine RX.nS rfl rfl rfl GdA rfl ?_))); (try apply RX.nil _ (by kernel_rfl)); repeat (first | apply TL.seq | ((first | apply TL.pl | apply TL.dr _ (by kernel_rfl)); (repeat (first | (apply RX.kN; refine RX.x OpA rfl ?_) | (apply RX.kG; first | refine RX.y rfl rfl rfl GdA OpA ?_ | refine RX.n rfl rfl rfl GdA rfl rfl ?_ | refine RX.nU rfl rfl rfl rfl rfl ?_ | refine RX.nS rfl rfl rfl GdA rfl ?_))); (try apply RX.nil _ (by kernel_rfl))) | (apply TL.kC; first | refine TL.condT rfl DecT ?_ | refine TL.condF rfl DecF ?_ | refine TL.condT rfl BoT ?_ | refine TL.condF rfl BoF ?_) | apply TL.block | apply TL.endB | apply TL.exit rfl | apply TL.exitOut rfl | apply TL.ret | apply TL.skip | apply TL.nil | apply loopK.exit rfl | apply loopK.ret | apply loopK.exitOut rfl))
  (first | refine RX.x (OpR.callA (known11_s) (sg []) LeA) rfl ?_ | refine RX.y rfl rfl rfl GdA (OpR.callA (known11_s) (sg []) LeA) ?_); ((repeat (first | (apply RX.kN; refine RX.x OpA rfl ?_) | (apply RX.kG; first | refine RX.y rfl rfl rfl GdA OpA ?_ | refine RX.n rfl rfl rfl GdA rfl rfl ?_ | refine RX.nU rfl rfl rfl rfl rfl ?_ | refine RX.nS rfl rfl rfl GdA rfl ?_))); (try apply RX.nil _ (by kernel_rfl)); repeat (first | apply TL.seq | ((first | apply TL.pl | apply TL.dr _ (by kernel_rfl)); (repeat (first | (apply RX.kN; refine RX.x OpA rfl ?_) | (apply RX.kG; first | refine RX.y rfl rfl rfl GdA OpA ?_ | refine RX.n rfl rfl rfl GdA rfl rfl ?_ | refine RX.nU rfl rfl rfl rfl rfl ?_ | refine RX.nS rfl rfl rfl GdA rfl ?_))); (try apply RX.nil _ (by kernel_rfl))) | (apply TL.kC; first | refine TL.condT rfl DecT ?_ | refine TL.condF rfl DecF ?_ | refine TL.condT rfl BoT ?_ | refine TL.condF rfl BoF ?_) | apply TL.block | apply TL.endB | apply TL.exit rfl | apply TL.exitOut rfl | apply TL.ret | apply TL.skip | apply TL.nil | apply loopK.exit rfl | apply loopK.ret | apply loopK.exitOut rfl))
  (first | refine RX.x (OpR.callA (s1) (sg [(1000, 24), (1001, 124), (1002, 29)]) LeA) rfl ?_ | refine RX.y rfl rfl rfl GdA (OpR.callA (s1) (sg [(1000, 24), (1001, 124), (1002, 29)]) LeA) ?_); ((repeat (first | (apply RX.kN; refine RX.x OpA rfl ?_) | (apply RX.kG; first | refine RX.y rfl rfl rfl GdA OpA ?_ | refine RX.n rfl rfl rfl GdA rfl rfl ?_ | refine RX.nU rfl rfl rfl rfl rfl ?_ | refine RX.nS rfl rfl rfl GdA rfl ?_))); (try apply RX.nil _ (by kernel_rfl)); repeat (first | apply TL.seq | ((first | apply TL.pl | apply TL.dr _ (by kernel_rfl)); (repeat (first | (apply RX.kN; refine RX.x OpA rfl ?_) | (apply RX.kG; first | refine RX.y rfl rfl rfl GdA OpA ?_ | refine RX.n rfl rfl rfl GdA rfl rfl ?_ | refine RX.nU rfl rfl rfl rfl rfl ?_ | refine RX.nS rfl rfl rfl GdA rfl ?_))); (try apply RX.nil _ (by kernel_rfl))) | (apply TL.kC; first | refine TL.condT rfl DecT ?_ | refine TL.condF rfl DecF ?_ | refine TL.condT rfl BoT ?_ | refine TL.condF rfl BoF ?_) | apply TL.block | apply TL.endB | apply TL.exit rfl | apply TL.exitOut rfl | apply TL.ret | apply TL.skip | apply TL.nil | apply loopK.exit rfl | apply loopK.ret | apply loopK.exitOut rfl))
  (first | refine RX.x (OpR.callA (s2) (sg [(1000, 24), (1001, 124), (1002, 34)]) LeA) rfl ?_ | refine RX.y rfl rfl rfl GdA (OpR.callA (s2) (sg [(1000, 24), (1001, 124), (1002, 34)]) LeA) ?_); ((repeat (first | (apply RX.kN; refine RX.x OpA rfl ?_) | (apply RX.kG; first | refine RX.y rfl rfl rfl GdA OpA ?_ | refine RX.n rfl rfl rfl GdA rfl rfl ?_ | refine RX.nU rfl rfl rfl rfl rfl ?_ | refine RX.nS rfl rfl rfl GdA rfl ?_))); (try apply RX.nil _ (by kernel_rfl)); repeat (first | apply TL.seq | ((first | apply TL.pl | apply TL.dr _ (by kernel_rfl)); (repeat (first | (apply RX.kN; refine RX.x OpA rfl ?_) | (apply RX.kG; first | refine RX.y rfl rfl rfl GdA OpA ?_ | refine RX.n rfl rfl rfl GdA rfl rfl ?_ | refine RX.nU rfl rfl rfl rfl rfl ?_ | refine RX.nS rfl rfl rfl GdA rfl ?_))); (try apply RX.nil _ (by kernel_rfl))) | (apply TL.kC; first | refine TL.condT rfl DecT ?_ | refine TL.condF rfl DecF ?_ | refine TL.condT rfl BoT ?_ | refine TL.condF rfl BoF ?_) | apply TL.block | apply TL.endB | apply TL.exit rfl | apply TL.exitOut rfl | apply TL.ret | apply TL.skip | apply TL.nil | apply loopK.exit rfl | apply loopK.ret | apply loopK.exitOut rfl))
  (first | refine RX.x (OpR.callA (pN) (sg [(1000, 79), (1001, 29)]) LeA) rfl ?_ | refine RX.y rfl rfl rfl GdA (OpR.callA (pN) (sg [(1000, 79), (1001, 29)]) LeA) ?_); ((repeat (first | (apply RX.kN; refine RX.x OpA rfl ?_) | (apply RX.kG; first | refine RX.y rfl rfl rfl GdA OpA ?_ | refine RX.n rfl rfl rfl GdA rfl rfl ?_ | refine RX.nU rfl rfl rfl rfl rfl ?_ | refine RX.nS rfl rfl rfl GdA rfl ?_))); (try apply RX.nil _ (by kernel_rfl)); repeat (first | apply TL.seq | ((first | apply TL.pl | apply TL.dr _ (by kernel_rfl)); (repeat (first | (apply RX.kN; refine RX.x OpA rfl ?_) | (apply RX.kG; first | refine RX.y rfl rfl rfl GdA OpA ?_ | refine RX.n rfl rfl rfl GdA rfl rfl ?_ | refine RX.nU rfl rfl rfl rfl rfl ?_ | refine RX.nS rfl rfl rfl GdA rfl ?_))); (try apply RX.nil _ (by kernel_rfl))) | (apply TL.kC; first | refine TL.condT rfl DecT ?_ | refine TL.condF rfl DecF ?_ | refine TL.condT rfl BoT ?_ | refine TL.condF rfl BoF ?_) | apply TL.block | apply TL.endB | apply TL.exit rfl | apply TL.exitOut rfl | apply TL.ret | apply TL.skip | apply TL.nil | apply loopK.exit rfl | apply loopK.ret | apply loopK.exitOut rfl))
  exact retK.v rfl
end Go.Proofs.Ytiboffhdabeiiaa
