/-
  NumBack: for every input the law returns true, and its arguments read as they did. No condition.
-/
import Derived.Test.YtpdjnjkliioneaaRows
import Derived.Test.YtpdjnjkliioneaaWdD
import Derived.Test.YtpdjnjkliioneaaSxO
import Derived.Test.YtpdjnjkliioneaaWdO
import Derived.WalkKit
import Derived.ProofKit
import Derived.OpenShut
import Derived.ChangeOld
import Derived.Below
import Derived.SizedLaws
namespace Go.Proofs.Ytpdjnjkliioneaa.numBack
open Go.ChangeShapes Go.WideShapes Go.ChangeAt Go.RowKit
set_option linter.unusedVariables false
theorem own : ownKnob Try.prog.godebug = none := by kernel_rfl
theorem laidOut : laidOutB Try.prog = true := by kernel_rfl
set_option maxRecDepth 100000 in
set_option maxHeartbeats 1000000 in
theorem lifted (os : Os) (started : os.Started) (H : Type) (enc : TypeId × Value → H) :
    ReturnsInHanded {} Try.checked os 3 .any (Rows.numBackSpec.pre6 enc Try.prog Try.f3 Rows.numBackRow.domain false) (Rows.numBackSpec.post enc Try.prog Try.f3 false true false false) := by
  refine returnsInHanded_of_change_sized (C := Try.checked) own started (by kernel_rfl) Try.func3
    (ChangeSpec.witness6 (enc := enc) (C := Try.checked) false ⟨#[], #[.agg #[.int .i64 0, .int .u64 0], .agg #[.int .i64 0, .int .u64 0], .int .i64 0], []⟩ 8 (by kernel_rfl) (by kernel_rfl) (by kernel_rfl) (by kernel_rfl)) ?_
  intro W base args ds gs before hval0 hW hcnd hsz0 _
  have hval : ∀ (j : Nat) t v, Try.f3.params[j]? = some t → args[j]? = some v → Value.okWide Try.prog W .any base t v := hval0
  have hsz : (DataW.weightsEach Try.prog (Try.f3.params.toList ++ Rows.numBackSpec.plain.varTypes Try.prog) (ds ++ gs)).all (· ≤ reachBytes) = true := hsz0
  have hW' := hW
  obtain ⟨p, q, hA0, hV, rfl, hfz, hnd⟩ := hW
  have hA : DataW.TrodAll enc Try.prog W 0 (fun _ => true) true Try.f3.params.toList args.toList ds p := hA0
  rw [Try.params3] at hA hval hsz
  obtain ⟨v0, vs0, d0, ds0, p0, q0, hargs, rfl, rfl, h0, r0⟩ := trodAll_cons hA
  obtain ⟨v1, vs1, d1, ds1, p1, q1, rfl, rfl, rfl, h1, r1⟩ := trodAll_cons r0
  obtain ⟨v2, vs2, d2, ds2, p2, q2, rfl, rfl, rfl, h2, r2⟩ := trodAll_cons r1
  obtain ⟨rfl, rfl, rfl⟩ := trodAll_nil r2
  obtain rfl : args = #[v0, v1, v2] := by cases args; simp_all
  obtain ⟨rfl, rfl⟩ := trodVars_none hV
  have k0 := h0
  have lt0 : ∀ x ∈ p0, x.block < W.heap.size := by obtain ⟨m, hm⟩ := k0; exact DataW.trod_lt m _ _ _ hm
  have k1 := h1
  have lt1 : ∀ x ∈ p1, x.block < W.heap.size := by obtain ⟨m, hm⟩ := k1; exact DataW.trod_lt m _ _ _ hm
  have k2 := h2
  have lt2 : ∀ x ∈ p2, x.block < W.heap.size := by obtain ⟨m, hm⟩ := k2; exact DataW.trod_lt m _ _ _ hm
  have wt0 : ∀ n ∈ d0.weights Try.prog 24, n ≤ reachBytes := fun n hn => of_decide_eq_true (List.all_eq_true.1 hsz n (DataW.weights_mem_each (j := 0) rfl rfl n hn))
  obtain ⟨fu0, hf0⟩ := h0
  obtain ⟨cs0, rfl, _⟩ := okWide_struct Try.underlying24 (hval 0 24 v0 rfl rfl)
  obtain ⟨a, he0⟩ := (reads_wide Try.underlying24 (by kernel_rfl) ⟨rfl, by kernel_rfl⟩ ⟨rfl, by kernel_rfl⟩ Try.underlying2 Try.underlying22) _ _ _ _ _ _ _ _ _ wt0 hf0
  obtain rfl : cs0 = #[.int .i64 (toW a).hi, .int .u64 (toW a).lo] := Array.ext' (by simpa [Value.cells, eArc, eWide] using he0)
  have wt1 : ∀ n ∈ d1.weights Try.prog 24, n ≤ reachBytes := fun n hn => of_decide_eq_true (List.all_eq_true.1 hsz n (DataW.weights_mem_each (j := 1) rfl rfl n hn))
  obtain ⟨fu1, hf1⟩ := h1
  obtain ⟨cs1, rfl, _⟩ := okWide_struct Try.underlying24 (hval 1 24 v1 rfl rfl)
  obtain ⟨b, he1⟩ := (reads_wide Try.underlying24 (by kernel_rfl) ⟨rfl, by kernel_rfl⟩ ⟨rfl, by kernel_rfl⟩ Try.underlying2 Try.underlying22) _ _ _ _ _ _ _ _ _ wt1 hf1
  obtain rfl : cs1 = #[.int .i64 (toW b).hi, .int .u64 (toW b).lo] := Array.ext' (by simpa [Value.cells, eArc, eWide] using he1)
  obtain ⟨n, rfl, _, _, n_wf⟩ := open_int Try.underlying2 (hval 2 2 v2 rfl rfl) h2
  have n_ok : -9223372036854775808 ≤ n ∧ n ≤ 9223372036854775807 := by
    simpa [Lit.wf, IntKind.min, IntKind.max, IntKind.signed, IntKind.bits] using n_wf
  clear hA0 hval0 hsz0
  have walk : Calls Try.prog 3 #[.agg #[.int .i64 (toW a).hi, .int .u64 (toW a).lo], .agg #[.int .i64 (toW b).hi, .int .u64 (toW b).lo], .int .i64 n] W fun e w' => e = .returned (.bool true) ∧ Below W.heap.size W w' := by
    refine (numBack_s a b n n_ok.1 n_ok.2).law [] ?_ rfl ?_
    · simp [denL, SV.den, env, getL_cons, biOf_cap]
    · intro p hp
      simp at hp
  refine walk.mono fun e W' ⟨he, bel⟩ => ?_
  subst he
  exact ⟨_, rfl, _, _, _, [], _, [], hW', trodAll_mk1 (shut_bool Try.underlying4 _), (trodAll_cons_mk (Below.trod laidOut (by kernel_rfl) (of_decide_eq_true (by kernel_rfl)) k0 bel lt0) (trodAll_cons_mk (Below.trod laidOut (by kernel_rfl) (of_decide_eq_true (by kernel_rfl)) k1 bel lt1) (trodAll_cons_mk (Below.trod laidOut (by kernel_rfl) (of_decide_eq_true (by kernel_rfl)) k2 bel lt2) trodAll_mk0))), rfl, bel.frame _, fun h => by cases h⟩
theorem over : Rows.numBackRow.holds Try.pinned (OpenSpec.ofChange Rows.numBackSpec) :=
  OpenClaim.holds_of_wide 3 Try.f3 rfl rfl rfl rfl rfl rfl rfl ⟨rfl, rfl, rfl, rfl, rfl⟩ rfl rfl rfl rfl rfl (by kernel_rfl) Try.func3 (by kernel_rfl)
    (of_decide_eq_true (by kernel_rfl)) (by unfold Func.isWrapper; first | (rw [if_pos (by decide +kernel)]; kernel_rfl) | (rw [if_neg (by decide +kernel)]; exact ⟨rfl, rfl⟩))
    (fun os started H enc _ => lifted os started H enc)
/-- The statement. -/
theorem proved : Rows.NumBackSaid := over
#print axioms proved
end Go.Proofs.Ytpdjnjkliioneaa.numBack
