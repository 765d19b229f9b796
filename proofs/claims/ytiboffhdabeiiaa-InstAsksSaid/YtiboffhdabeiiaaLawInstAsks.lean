/-
  InstAsks: for every input the law returns true, and its arguments read as they did. No condition.
-/
import Derived.Test.YtiboffhdabeiiaaRows
import Derived.Test.YtiboffhdabeiiaaFx
import Derived.Test.YtiboffhdabeiiaaSqQ
import Derived.Test.YtiboffhdabeiiaaSxO
import Derived.Test.YtiboffhdabeiiaaWdO
import Derived.WalkKit
import Derived.ProofKit
import Derived.OpenShut
import Derived.ChangeOld
import Derived.Below
import Derived.SizedLaws
namespace Go.Proofs.Ytiboffhdabeiiaa.instAsks
open Go.ChangeShapes Go.WideShapes Go.ChangeAt Go.RowKit
set_option linter.unusedVariables false
theorem own : ownKnob Try.prog.godebug = none := by kernel_rfl
theorem laidOut : laidOutB Try.prog = true := by kernel_rfl
set_option maxRecDepth 100000 in
set_option maxHeartbeats 1000000 in
theorem lifted (os : Os) (started : os.Started) (H : Type) (enc : TypeId × Value → H) :
    ReturnsInHanded {} Try.checked os 3 .any (Rows.instAsksSpec.pre6 enc Try.prog Try.f3 Rows.instAsksRow.domain false) (Rows.instAsksSpec.post enc Try.prog Try.f3 false true false false) := by
  refine returnsInHanded_of_change_sized (C := Try.checked) own started (by kernel_rfl) Try.func3
    (ChangeSpec.witness6 (enc := enc) (C := Try.checked) false ⟨#[], #[.agg #[.slice none 0 0, .slice none 0 0], .agg #[.slice none 0 0, .slice none 0 0], .slice none 0 0, .slice none 0 0, .int .i64 0, .slice none 0 0, .slice none 0 0], []⟩ 8 (by kernel_rfl) (by kernel_rfl) (by kernel_rfl) (by kernel_rfl)) ?_
  intro W base args ds gs before hval0 hW hcnd hsz0 _
  have hval : ∀ (j : Nat) t v, Try.f3.params[j]? = some t → args[j]? = some v → Value.okWide Try.prog W .any base t v := hval0
  have hsz : (DataW.weightsEach Try.prog (Try.f3.params.toList ++ Rows.instAsksSpec.plain.varTypes Try.prog) (ds ++ gs)).all (· ≤ reachBytes) = true := hsz0
  have hW' := hW
  obtain ⟨p, q, hA0, hV, rfl, hfz, hnd⟩ := hW
  have hA : DataW.TrodAll enc Try.prog W 0 (fun _ => true) true Try.f3.params.toList args.toList ds p := hA0
  rw [Try.params3] at hA hval hsz
  obtain ⟨v0, vs0, d0, ds0, p0, q0, hargs, rfl, rfl, h0, r0⟩ := trodAll_cons hA
  obtain ⟨v1, vs1, d1, ds1, p1, q1, rfl, rfl, rfl, h1, r1⟩ := trodAll_cons r0
  obtain ⟨v2, vs2, d2, ds2, p2, q2, rfl, rfl, rfl, h2, r2⟩ := trodAll_cons r1
  obtain ⟨v3, vs3, d3, ds3, p3, q3, rfl, rfl, rfl, h3, r3⟩ := trodAll_cons r2
  obtain ⟨v4, vs4, d4, ds4, p4, q4, rfl, rfl, rfl, h4, r4⟩ := trodAll_cons r3
  obtain ⟨v5, vs5, d5, ds5, p5, q5, rfl, rfl, rfl, h5, r5⟩ := trodAll_cons r4
  obtain ⟨v6, vs6, d6, ds6, p6, q6, rfl, rfl, rfl, h6, r6⟩ := trodAll_cons r5
  obtain ⟨rfl, rfl, rfl⟩ := trodAll_nil r6
  obtain rfl : args = #[v0, v1, v2, v3, v4, v5, v6] := by cases args; simp_all
  obtain ⟨rfl, rfl⟩ := trodVars_none hV
  have k0 := h0
  have lt0 : ∀ x ∈ p0, x.block < W.heap.size := by obtain ⟨m, hm⟩ := k0; exact DataW.trod_lt m _ _ _ hm
  have k1 := h1
  have lt1 : ∀ x ∈ p1, x.block < W.heap.size := by obtain ⟨m, hm⟩ := k1; exact DataW.trod_lt m _ _ _ hm
  have k2 := h2
  have lt2 : ∀ x ∈ p2, x.block < W.heap.size := by obtain ⟨m, hm⟩ := k2; exact DataW.trod_lt m _ _ _ hm
  have k3 := h3
  have lt3 : ∀ x ∈ p3, x.block < W.heap.size := by obtain ⟨m, hm⟩ := k3; exact DataW.trod_lt m _ _ _ hm
  have k4 := h4
  have lt4 : ∀ x ∈ p4, x.block < W.heap.size := by obtain ⟨m, hm⟩ := k4; exact DataW.trod_lt m _ _ _ hm
  have k5 := h5
  have lt5 : ∀ x ∈ p5, x.block < W.heap.size := by obtain ⟨m, hm⟩ := k5; exact DataW.trod_lt m _ _ _ hm
  have k6 := h6
  have lt6 : ∀ x ∈ p6, x.block < W.heap.size := by obtain ⟨m, hm⟩ := k6; exact DataW.trod_lt m _ _ _ hm
  have wt0 : ∀ n ∈ d0.weights Try.prog 25, n ≤ reachBytes := fun n hn => of_decide_eq_true (List.all_eq_true.1 hsz n (DataW.weights_mem_each (j := 0) rfl rfl n hn))
  obtain ⟨fu0, hf0⟩ := h0
  obtain ⟨cs0, rfl, _⟩ := okWide_struct Try.underlying25 (hval 0 25 v0 rfl rfl)
  obtain ⟨A0, C0, i_s, B0, D0, i_l, he0, i_srd, i_sok, i_ssz, i_scp, i_lrd, i_lok, i_lsz, i_lcp⟩ := (reads_inst Try.underlying25 (by kernel_rfl) ⟨rfl, by kernel_rfl⟩ ⟨rfl, by kernel_rfl⟩ (reads_ints Try.underlying22 Try.underlying2 (by kernel_rfl) (by kernel_rfl)) (reads_arcs Try.underlying23 (by kernel_rfl) (by kernel_rfl) (reads_arc Try.underlying44 (by kernel_rfl) ⟨Try.underlying3, rfl, by kernel_rfl⟩ ⟨Try.underlying3, rfl, by kernel_rfl⟩ ⟨Try.underlying2, rfl, by kernel_rfl⟩ ⟨Try.underlying2, rfl, by kernel_rfl⟩ ⟨Try.underlying2, rfl, by kernel_rfl⟩))) _ _ _ _ _ _ _ _ _ wt0 hf0
  obtain rfl : cs0 = #[.slice A0 i_s.length C0, .slice B0 i_l.length D0] := Array.ext' (by simpa [Value.cells, eArc, eWide] using he0)
  have wt1 : ∀ n ∈ d1.weights Try.prog 25, n ≤ reachBytes := fun n hn => of_decide_eq_true (List.all_eq_true.1 hsz n (DataW.weights_mem_each (j := 1) rfl rfl n hn))
  obtain ⟨fu1, hf1⟩ := h1
  obtain ⟨cs1, rfl, _⟩ := okWide_struct Try.underlying25 (hval 1 25 v1 rfl rfl)
  obtain ⟨A1, C1, j_s, B1, D1, j_l, he1, j_srd, j_sok, j_ssz, j_scp, j_lrd, j_lok, j_lsz, j_lcp⟩ := (reads_inst Try.underlying25 (by kernel_rfl) ⟨rfl, by kernel_rfl⟩ ⟨rfl, by kernel_rfl⟩ (reads_ints Try.underlying22 Try.underlying2 (by kernel_rfl) (by kernel_rfl)) (reads_arcs Try.underlying23 (by kernel_rfl) (by kernel_rfl) (reads_arc Try.underlying44 (by kernel_rfl) ⟨Try.underlying3, rfl, by kernel_rfl⟩ ⟨Try.underlying3, rfl, by kernel_rfl⟩ ⟨Try.underlying2, rfl, by kernel_rfl⟩ ⟨Try.underlying2, rfl, by kernel_rfl⟩ ⟨Try.underlying2, rfl, by kernel_rfl⟩))) _ _ _ _ _ _ _ _ _ wt1 hf1
  obtain rfl : cs1 = #[.slice A1 j_s.length C1, .slice B1 j_l.length D1] := Array.ext' (by simpa [Value.cells, eArc, eWide] using he1)
  have wt2 : ∀ n ∈ d2.weights Try.prog 26, n ≤ reachBytes := fun n hn => of_decide_eq_true (List.all_eq_true.1 hsz n (DataW.weights_mem_each (j := 2) rfl rfl n hn))
  obtain ⟨fu2, hf2⟩ := h2
  obtain ⟨a2, len2, cap2, rfl⟩ := okWide_slice Try.underlying26 (hval 2 26 v2 rfl rfl)
  obtain ⟨A2, C2, nodes, he2, nodes_rd, nodes_ok, nodes_sz, nodes_cp, nodes_mx⟩ := (reads_bools Try.underlying26 Try.underlying4 (by kernel_rfl) (by kernel_rfl)) _ _ _ _ _ _ _ _ _ wt2 hf2
  simp [Value.cells] at he2
  obtain ⟨rfl, rfl, rfl⟩ := he2
  have wt3 : ∀ n ∈ d3.weights Try.prog 26, n ≤ reachBytes := fun n hn => of_decide_eq_true (List.all_eq_true.1 hsz n (DataW.weights_mem_each (j := 3) rfl rfl n hn))
  obtain ⟨fu3, hf3⟩ := h3
  obtain ⟨a3, len3, cap3, rfl⟩ := okWide_slice Try.underlying26 (hval 3 26 v3 rfl rfl)
  obtain ⟨A3, C3, arcs, he3, arcs_rd, arcs_ok, arcs_sz, arcs_cp, arcs_mx⟩ := (reads_bools Try.underlying26 Try.underlying4 (by kernel_rfl) (by kernel_rfl)) _ _ _ _ _ _ _ _ _ wt3 hf3
  simp [Value.cells] at he3
  obtain ⟨rfl, rfl, rfl⟩ := he3
  obtain ⟨n, rfl, _, _, n_wf⟩ := open_int Try.underlying3 (hval 4 3 v4 rfl rfl) h4
  have n_ok : -9223372036854775808 ≤ n ∧ n ≤ 9223372036854775807 := by
    simpa [Lit.wf, IntKind.min, IntKind.max, IntKind.signed, IntKind.bits] using n_wf
  have wt5 : ∀ n ∈ d5.weights Try.prog 27, n ≤ reachBytes := fun n hn => of_decide_eq_true (List.all_eq_true.1 hsz n (DataW.weights_mem_each (j := 5) rfl rfl n hn))
  obtain ⟨fu5, hf5⟩ := h5
  obtain ⟨a5, len5, cap5, rfl⟩ := okWide_slice Try.underlying27 (hval 5 27 v5 rfl rfl)
  obtain ⟨A5, C5, c, he5, c_rd, c_ok, c_sz, c_cp, c_mx⟩ := (reads_byts Try.underlying27 Try.underlying5 (by kernel_rfl) (by kernel_rfl)) _ _ _ _ _ _ _ _ _ wt5 hf5
  simp [Value.cells] at he5
  obtain ⟨rfl, rfl, rfl⟩ := he5
  have wt6 : ∀ n ∈ d6.weights Try.prog 27, n ≤ reachBytes := fun n hn => of_decide_eq_true (List.all_eq_true.1 hsz n (DataW.weights_mem_each (j := 6) rfl rfl n hn))
  obtain ⟨fu6, hf6⟩ := h6
  obtain ⟨a6, len6, cap6, rfl⟩ := okWide_slice Try.underlying27 (hval 6 27 v6 rfl rfl)
  obtain ⟨A6, C6, d, he6, d_rd, d_ok, d_sz, d_cp, d_mx⟩ := (reads_byts Try.underlying27 Try.underlying5 (by kernel_rfl) (by kernel_rfl)) _ _ _ _ _ _ _ _ _ wt6 hf6
  simp [Value.cells] at he6
  obtain ⟨rfl, rfl, rfl⟩ := he6
  have hrb := Go.reachBytes_lt
  clear hA0 hval0 hsz0
  have walk : Calls Try.prog 3 #[.agg #[.slice A0 i_s.length C0, .slice B0 i_l.length D0], .agg #[.slice A1 j_s.length C1, .slice B1 j_l.length D1], .slice a2 nodes.length cap2, .slice a3 arcs.length cap3, .int .i64 n, .slice a5 c.length cap5, .slice a6 d.length cap6] W fun e w' => e = .returned (.bool true) ∧ Below W.heap.size W w' := by
    refine (asks_law i_s j_s i_l j_l nodes arcs n c d (by omega) (by omega) (by omega) (by omega) (by omega) (by omega) c_ok d_ok (by omega) (by omega)).law [(1000, biOf A0 i_s.length C0), (1001, biOf B0 i_l.length D0), (1002, biOf A1 j_s.length C1), (1003, biOf B1 j_l.length D1), (1004, biOf a2 nodes.length cap2), (1005, biOf a3 arcs.length cap3), (1006, biOf a5 c.length cap5), (1007, biOf a6 d.length cap6)] ?_ rfl ?_
    · simp [denL, SV.den, env, getL_cons, biOf_cap, biOf_dn i_srd, biOf_dn i_lrd, biOf_dn j_srd, biOf_dn j_lrd, biOf_dn nodes_rd, biOf_dn arcs_rd, biOf_dn c_rd, biOf_dn d_rd]
    · intro p hp
      simp only [List.mem_cons, List.not_mem_nil, or_false] at hp
      rcases hp with rfl | rfl | rfl | rfl | rfl | rfl | rfl | rfl
      · exact .mk' i_srd i_scp rfl
      · exact .mk' i_lrd i_lcp rfl
      · exact .mk' j_srd j_scp rfl
      · exact .mk' j_lrd j_lcp rfl
      · exact .mk' nodes_rd nodes_cp rfl
      · exact .mk' arcs_rd arcs_cp rfl
      · exact .mk' c_rd c_cp rfl
      · exact .mk' d_rd d_cp rfl
  refine walk.mono fun e W' ⟨he, bel⟩ => ?_
  subst he
  exact ⟨_, rfl, _, _, _, [], _, [], hW', trodAll_mk1 (shut_bool Try.underlying4 _), (trodAll_cons_mk (Below.trod laidOut (by kernel_rfl) (of_decide_eq_true (by kernel_rfl)) k0 bel lt0) (trodAll_cons_mk (Below.trod laidOut (by kernel_rfl) (of_decide_eq_true (by kernel_rfl)) k1 bel lt1) (trodAll_cons_mk (Below.trod laidOut (by kernel_rfl) (of_decide_eq_true (by kernel_rfl)) k2 bel lt2) (trodAll_cons_mk (Below.trod laidOut (by kernel_rfl) (of_decide_eq_true (by kernel_rfl)) k3 bel lt3) (trodAll_cons_mk (Below.trod laidOut (by kernel_rfl) (of_decide_eq_true (by kernel_rfl)) k4 bel lt4) (trodAll_cons_mk (Below.trod laidOut (by kernel_rfl) (of_decide_eq_true (by kernel_rfl)) k5 bel lt5) (trodAll_cons_mk (Below.trod laidOut (by kernel_rfl) (of_decide_eq_true (by kernel_rfl)) k6 bel lt6) trodAll_mk0))))))), rfl, bel.frame _, fun h => by cases h⟩
theorem closed : joinedFacts Try.pinned.checked.prog 3 Try.f3 Rows.instAsksSpec Rows.instAsksRow = true := by
  show joinedFacts Try.prog 3 Try.f3 Rows.instAsksSpec Rows.instAsksRow = true
  unfold joinedFacts
  rw [mayE, liftsF, makeF]
  kernel_rfl
theorem over : Rows.instAsksRow.holds Try.pinned (OpenSpec.ofChange Rows.instAsksSpec) :=
  OpenClaim.holds_of_wide 3 Try.f3 rfl rfl rfl rfl rfl rfl rfl ⟨rfl, rfl, rfl, rfl, rfl⟩ rfl rfl rfl rfl rfl (by kernel_rfl) Try.func3 closed
    (of_decide_eq_true (by kernel_rfl)) (by unfold Func.isWrapper; first | (rw [if_pos (by decide +kernel)]; kernel_rfl) | (rw [if_neg (by decide +kernel)]; exact ⟨rfl, rfl⟩))
    (fun os started H enc _ => lifted os started H enc)
/-- The statement. -/
theorem proved : Rows.InstAsksSaid := over
#print axioms proved
end Go.Proofs.Ytiboffhdabeiiaa.instAsks
