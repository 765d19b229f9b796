/-
  NumAsks: for every input the law returns true, and its arguments read as they did. No condition.
-/
import Derived.Test.YtpdjnjkliioneaaRows
import Derived.Test.YtpdjnjkliioneaaWdK
import Derived.Test.YtpdjnjkliioneaaWdQ
import Derived.Test.YtpdjnjkliioneaaSxO
import Derived.Test.YtpdjnjkliioneaaWdO
import Derived.WalkKit
import Derived.ProofKit
import Derived.OpenShut
import Derived.ChangeOld
import Derived.Below
import Derived.SizedLaws
namespace Go.Proofs.Ytpdjnjkliioneaa.numAsks
open Go.ChangeShapes Go.WideShapes Go.ChangeAt Go.RowKit
set_option linter.unusedVariables false
theorem own : ownKnob Try.prog.godebug = none := by kernel_rfl
theorem laidOut : laidOutB Try.prog = true := by kernel_rfl
set_option maxRecDepth 100000 in
set_option maxHeartbeats 1000000 in
theorem lifted (os : Os) (started : os.Started) (H : Type) (enc : TypeId × Value → H) :
    ReturnsInHanded {} Try.checked os 10 .any (Rows.numAsksSpec.pre6 enc Try.prog Try.f10 Rows.numAsksRow.domain false) (Rows.numAsksSpec.post enc Try.prog Try.f10 false true false false) := by
  refine returnsInHanded_of_change_sized (C := Try.checked) own started (by kernel_rfl) Try.func10
    (ChangeSpec.witness6 (enc := enc) (C := Try.checked) false ⟨#[], #[.int .i64 0, .int .i64 0, .agg #[.int .i64 0, .int .u64 0], .agg #[.int .i64 0, .int .u64 0], .slice none 0 0, .slice none 0 0, .slice none 0 0], []⟩ 8 (by kernel_rfl) (by kernel_rfl) (by kernel_rfl) (by kernel_rfl)) ?_
  intro W base args ds gs before hval0 hW hcnd hsz0 _
  have hval : ∀ (j : Nat) t v, Try.f10.params[j]? = some t → args[j]? = some v → Value.okWide Try.prog W .any base t v := hval0
  have hsz : (DataW.weightsEach Try.prog (Try.f10.params.toList ++ Rows.numAsksSpec.plain.varTypes Try.prog) (ds ++ gs)).all (· ≤ reachBytes) = true := hsz0
  have hW' := hW
  obtain ⟨p, q, hA0, hV, rfl, hfz, hnd⟩ := hW
  have hA : DataW.TrodAll enc Try.prog W 0 (fun _ => true) true Try.f10.params.toList args.toList ds p := hA0
  rw [Try.params10] at hA hval hsz
  obtain ⟨v0, vs0, d0, ds0, p0, q0, hargs, rfl, rfl, h0, r0⟩ := trodAll_cons hA
  obtain ⟨v1, vs1, d1, ds1, p1, q1, rfl, rfl, rfl, h1, r1⟩ := trodAll_cons r0
  obtain ⟨v2, vs2, d2, ds2, p2, q2, rfl, rfl, rfl, h2, r2⟩ := trodAll_cons r1
  obtain ⟨v3, vs3, d3, ds3, p3, q3, rfl, rfl, rfl, h3, r3⟩ := trodAll_cons r2
  obtain ⟨v4, vs4, d4, ds4, p4, q4, rfl, rfl, rfl, h4, r4⟩ := trodAll_cons r3
  obtain ⟨v5, vs5, d5, ds5, p5, q5, rfl, rfl, rfl, h5, r5⟩ := trodAll_cons r4
  obtain ⟨v6, vs6, d6, ds6, p6, q6, rfl, rfl, rfl, h6, r6⟩ := trodAll_cons r5
  obtain ⟨rfl, rfl, rfl⟩ := trodAll_nil r6
  obtain rfl : args = #[v0, v1, v2, v3, v4, v5, v6] := by cases args; simp_all
  obtain ⟨rfl, rfl⟩ := trodVars_none hV
  have k0 := h0
  have lt0 : ∀ x ∈ p0, x.block < W.heap.size := by obtain ⟨m, hm⟩ := k0; exact DataW.trod_lt m _ _ _ hm
  have k1 := h1
  have lt1 : ∀ x ∈ p1, x.block < W.heap.size := by obtain ⟨m, hm⟩ := k1; exact DataW.trod_lt m _ _ _ hm
  have k2 := h2
  have lt2 : ∀ x ∈ p2, x.block < W.heap.size := by obtain ⟨m, hm⟩ := k2; exact DataW.trod_lt m _ _ _ hm
  have k3 := h3
  have lt3 : ∀ x ∈ p3, x.block < W.heap.size := by obtain ⟨m, hm⟩ := k3; exact DataW.trod_lt m _ _ _ hm
  have k4 := h4
  have lt4 : ∀ x ∈ p4, x.block < W.heap.size := by obtain ⟨m, hm⟩ := k4; exact DataW.trod_lt m _ _ _ hm
  have k5 := h5
  have lt5 : ∀ x ∈ p5, x.block < W.heap.size := by obtain ⟨m, hm⟩ := k5; exact DataW.trod_lt m _ _ _ hm
  have k6 := h6
  have lt6 : ∀ x ∈ p6, x.block < W.heap.size := by obtain ⟨m, hm⟩ := k6; exact DataW.trod_lt m _ _ _ hm
  obtain ⟨a, rfl, _, _, a_wf⟩ := open_int Try.underlying2 (hval 0 2 v0 rfl rfl) h0
  have a_ok : -9223372036854775808 ≤ a ∧ a ≤ 9223372036854775807 := by
    simpa [Lit.wf, IntKind.min, IntKind.max, IntKind.signed, IntKind.bits] using a_wf
  obtain ⟨b, rfl, _, _, b_wf⟩ := open_int Try.underlying2 (hval 1 2 v1 rfl rfl) h1
  have b_ok : -9223372036854775808 ≤ b ∧ b ≤ 9223372036854775807 := by
    simpa [Lit.wf, IntKind.min, IntKind.max, IntKind.signed, IntKind.bits] using b_wf
  have wt2 : ∀ n ∈ d2.weights Try.prog 24, n ≤ reachBytes := fun n hn => of_decide_eq_true (List.all_eq_true.1 hsz n (DataW.weights_mem_each (j := 2) rfl rfl n hn))
  obtain ⟨fu2, hf2⟩ := h2
  obtain ⟨cs2, rfl, _⟩ := okWide_struct Try.underlying24 (hval 2 24 v2 rfl rfl)
  obtain ⟨x, he2⟩ := (reads_wide Try.underlying24 (by kernel_rfl) ⟨rfl, by kernel_rfl⟩ ⟨rfl, by kernel_rfl⟩ Try.underlying2 Try.underlying22) _ _ _ _ _ _ _ _ _ wt2 hf2
  obtain rfl : cs2 = #[.int .i64 (toW x).hi, .int .u64 (toW x).lo] := Array.ext' (by simpa [Value.cells, eArc, eWide] using he2)
  have wt3 : ∀ n ∈ d3.weights Try.prog 24, n ≤ reachBytes := fun n hn => of_decide_eq_true (List.all_eq_true.1 hsz n (DataW.weights_mem_each (j := 3) rfl rfl n hn))
  obtain ⟨fu3, hf3⟩ := h3
  obtain ⟨cs3, rfl, _⟩ := okWide_struct Try.underlying24 (hval 3 24 v3 rfl rfl)
  obtain ⟨y, he3⟩ := (reads_wide Try.underlying24 (by kernel_rfl) ⟨rfl, by kernel_rfl⟩ ⟨rfl, by kernel_rfl⟩ Try.underlying2 Try.underlying22) _ _ _ _ _ _ _ _ _ wt3 hf3
  obtain rfl : cs3 = #[.int .i64 (toW y).hi, .int .u64 (toW y).lo] := Array.ext' (by simpa [Value.cells, eArc, eWide] using he3)
  have wt4 : ∀ n ∈ d4.weights Try.prog 43, n ≤ reachBytes := fun n hn => of_decide_eq_true (List.all_eq_true.1 hsz n (DataW.weights_mem_each (j := 4) rfl rfl n hn))
  obtain ⟨fu4, hf4⟩ := h4
  obtain ⟨a4, len4, cap4, rfl⟩ := okWide_slice Try.underlying43 (hval 4 43 v4 rfl rfl)
  obtain ⟨A4, C4, l, he4, l_rd, l_ok, l_sz, l_cp, l_mx⟩ := (reads_ints Try.underlying43 Try.underlying2 (by kernel_rfl) (by kernel_rfl)) _ _ _ _ _ _ _ _ _ wt4 hf4
  simp [Value.cells] at he4
  obtain ⟨rfl, rfl, rfl⟩ := he4
  have wt5 : ∀ n ∈ d5.weights Try.prog 46, n ≤ reachBytes := fun n hn => of_decide_eq_true (List.all_eq_true.1 hsz n (DataW.weights_mem_each (j := 5) rfl rfl n hn))
  obtain ⟨fu5, hf5⟩ := h5
  obtain ⟨a5, len5, cap5, rfl⟩ := okWide_slice Try.underlying46 (hval 5 46 v5 rfl rfl)
  obtain ⟨A5, C5, c, he5, c_rd, c_ok, c_sz, c_cp, c_mx⟩ := ((reads_deeds Try.underlying46 (by kernel_rfl) (by kernel_rfl) (reads_deed Try.underlying60 (by kernel_rfl) ⟨rfl, by kernel_rfl⟩ ⟨rfl, by kernel_rfl⟩ ⟨rfl, by kernel_rfl⟩ Try.underlying5 Try.underlying2 Try.underlying2))) _ _ _ _ _ _ _ _ _ wt5 hf5
  simp [Value.cells] at he5
  obtain ⟨rfl, rfl, rfl⟩ := he5
  have wt6 : ∀ n ∈ d6.weights Try.prog 46, n ≤ reachBytes := fun n hn => of_decide_eq_true (List.all_eq_true.1 hsz n (DataW.weights_mem_each (j := 6) rfl rfl n hn))
  obtain ⟨fu6, hf6⟩ := h6
  obtain ⟨a6, len6, cap6, rfl⟩ := okWide_slice Try.underlying46 (hval 6 46 v6 rfl rfl)
  obtain ⟨A6, C6, d, he6, d_rd, d_ok, d_sz, d_cp, d_mx⟩ := ((reads_deeds Try.underlying46 (by kernel_rfl) (by kernel_rfl) (reads_deed Try.underlying60 (by kernel_rfl) ⟨rfl, by kernel_rfl⟩ ⟨rfl, by kernel_rfl⟩ ⟨rfl, by kernel_rfl⟩ Try.underlying5 Try.underlying2 Try.underlying2))) _ _ _ _ _ _ _ _ _ wt6 hf6
  simp [Value.cells] at he6
  obtain ⟨rfl, rfl, rfl⟩ := he6
  have hrb := Go.reachBytes_lt
  clear hA0 hval0 hsz0
  have walk : Calls Try.prog 10 #[.int .i64 a, .int .i64 b, .agg #[.int .i64 (toW x).hi, .int .u64 (toW x).lo], .agg #[.int .i64 (toW y).hi, .int .u64 (toW y).lo], .slice a4 l.length cap4, .slice a5 c.length cap5, .slice a6 d.length cap6] W fun e w' => e = .returned (.bool true) ∧ Below W.heap.size W w' := by
    refine (numAsks_s a b x y l c d a_ok.1 a_ok.2 b_ok.1 b_ok.2 (by omega) l_ok (by omega) c_ok (by omega) d_ok).law [(1000, biOf a4 l.length cap4), (1001, biOf a5 c.length cap5), (1002, biOf a6 d.length cap6)] ?_ rfl ?_
    · simp [denL, SV.den, env, getL_cons, biOf_cap, biOf_dn l_rd, biOf_dn c_rd, biOf_dn d_rd]
    · intro p hp
      simp only [List.mem_cons, List.not_mem_nil, or_false] at hp
      rcases hp with rfl | rfl | rfl
      · exact .mk' l_rd l_cp rfl
      · exact .mk' c_rd c_cp rfl
      · exact .mk' d_rd d_cp rfl
  refine walk.mono fun e W' ⟨he, bel⟩ => ?_
  subst he
  exact ⟨_, rfl, _, _, _, [], _, [], hW', trodAll_mk1 (shut_bool Try.underlying4 _), (trodAll_cons_mk (Below.trod laidOut (by kernel_rfl) (of_decide_eq_true (by kernel_rfl)) k0 bel lt0) (trodAll_cons_mk (Below.trod laidOut (by kernel_rfl) (of_decide_eq_true (by kernel_rfl)) k1 bel lt1) (trodAll_cons_mk (Below.trod laidOut (by kernel_rfl) (of_decide_eq_true (by kernel_rfl)) k2 bel lt2) (trodAll_cons_mk (Below.trod laidOut (by kernel_rfl) (of_decide_eq_true (by kernel_rfl)) k3 bel lt3) (trodAll_cons_mk (Below.trod laidOut (by kernel_rfl) (of_decide_eq_true (by kernel_rfl)) k4 bel lt4) (trodAll_cons_mk (Below.trod laidOut (by kernel_rfl) (of_decide_eq_true (by kernel_rfl)) k5 bel lt5) (trodAll_cons_mk (Below.trod laidOut (by kernel_rfl) (of_decide_eq_true (by kernel_rfl)) k6 bel lt6) trodAll_mk0))))))), rfl, bel.frame _, fun h => by cases h⟩
theorem over : Rows.numAsksRow.holds Try.pinned (OpenSpec.ofChange Rows.numAsksSpec) :=
  OpenClaim.holds_of_wide 10 Try.f10 rfl rfl rfl rfl rfl rfl rfl ⟨rfl, rfl, rfl, rfl, rfl⟩ rfl rfl rfl rfl rfl (by kernel_rfl) Try.func10 (by kernel_rfl)
    (of_decide_eq_true (by kernel_rfl)) (by unfold Func.isWrapper; first | (rw [if_pos (by decide +kernel)]; kernel_rfl) | (rw [if_neg (by decide +kernel)]; exact ⟨rfl, rfl⟩))
    (fun os started H enc _ => lifted os started H enc)
/-- The statement. -/
theorem proved : Rows.NumAsksSaid := over
#print axioms proved
end Go.Proofs.Ytpdjnjkliioneaa.numAsks
