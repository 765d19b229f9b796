/-
  inst: within, wrong, and the reference's in, arc.
-/
import Derived.Test.YteepfhdndhepmaaInP
import Derived.Test.YteepfhdndhepmaaProg
import Derived.Deep.QuietTactic
import Derived.BigQuiet
import Derived.Deep.LoopGhost
import Derived.Deep.RegionWith
import Derived.Deep.RegionHeld3
import Derived.Deep.DeepCutAuto
import Derived.Deep.DrawnRows
namespace Go.Proofs.Yteepfhdndhepmaa
open Go.RowKit

theorem within_any (n : Int) (w : World) : Calls Try.prog 27 #[.int .i64 n] w fun e w' => e = .returned (.bool (inB n)) ∧ w = w' := by
  unfold inB
  cases h1 : decide (n ≥ -4398046511104) <;> cases h2 : decide (n ≤ 4398046511104)
  all_goals
    go_enter Try.func27, Try.ntmps27
    go_wp2
    go_ret
    exact ⟨rfl, rfl⟩
theorem in_any (n : Int) (w : World) : Calls Try.prog 29 #[.int .i64 n] w fun e w' => e = .returned (.bool (inB n)) ∧ w = w' := by
  unfold inB
  cases h1 : decide (n ≥ -4398046511104) <;> cases h2 : decide (n ≤ 4398046511104)
  all_goals
    go_enter Try.func29, Try.ntmps29
    go_wp2
    go_ret
    exact ⟨rfl, rfl⟩

theorem node_any (n : Int) (m : Nat) (p : Addr) (w : World) (hc : w.cell? p = some (.int .i64 (m : Int))) : Calls Try.prog 43 #[.int .i64 n, .pointer (some p)] w fun e w' => e = .returned (.bool (nodeB n m)) ∧ w = w' := by
  unfold nodeB
  cases h1 : decide (n ≥ 0) <;> cases h2 : decide (n < (m : Int))
  all_goals
    go_enter Try.func43, Try.ntmps43
    go_wp2
    go_ret
    exact ⟨rfl, rfl⟩

theorem two_new (w : World) (o o' : Obj) : Below w.heap.size w ((w.alloc o).alloc o') := ((Below.refl _ _).alloc (Nat.le_refl _) _).alloc (by simp) _

def WrongPost (w : World) (x : Nat) (e : Ending) (w' : World) : Prop := e = .returned (.int .u16 (x : Int)) ∧ Below w.heap.size w w'

set_option maxHeartbeats 1600000 in
theorem wrong_any (a : PArc) (m : Nat) (w : World) : Calls Try.prog 26 #[a.val, .int .i64 (m : Int)] w (WrongPost w (wrongN a m)) := by
  obtain ⟨fr, dt, lo, ca, co⟩ := a
  show Calls Try.prog 26 #[.agg #[.int .i64 fr, .int .i64 dt, .int .i64 lo, .int .i64 ca, .int .i64 co], .int .i64 (m : Int)] w _
  have HB := Lib.hid (two_new w (.cells #[.int .i64 fr, .int .i64 dt, .int .i64 lo, .int .i64 ca, .int .i64 co] 36) (.cells #[.int .i64 (m : Int)] 3))
  have fin : ∀ x : Nat, wrongN ⟨fr, dt, lo, ca, co⟩ m = x → WrongPost w (wrongN ⟨fr, dt, lo, ca, co⟩ m) (.returned (.int .u16 (x : Int))) ((w.alloc (.cells #[.int .i64 fr, .int .i64 dt, .int .i64 lo, .int .i64 ca, .int .i64 co] 36)).alloc (.cells #[.int .i64 (m : Int)] 3)) := by
    rintro x rfl
    exact ⟨rfl, HB.out⟩
  have FIN := Lib.hid fin
  clear fin
  go_enter Try.func26, Try.ntmps26
  go_wp2_with fail
  refine (node_any _ m _ _ (by simp)).mono ?_
  rintro e w1 ⟨rfl, rfl⟩
  cases h1 : nodeB fr m
  · have FI := Lib.hid (FIN.out 21 (by simp [wrongN, h1]))
    go_wp2
    go_ret
    exact FI.out
  go_wp2_with fail
  refine (node_any _ m _ _ (by simp)).mono ?_
  rintro e w1 ⟨rfl, rfl⟩
  cases h2 : nodeB dt m
  · have FI := Lib.hid (FIN.out 21 (by simp [wrongN, h1, h2]))
    go_wp2
    go_ret
    exact FI.out
  cases h3 : decide (lo < 0)
  rotate_left
  · have FI := Lib.hid (FIN.out 22 (by simp [wrongN, h1, h2, h3]))
    go_wp2
    go_ret
    exact FI.out
  cases h4 : decide (lo > 4398046511104)
  rotate_left
  · have FI := Lib.hid (FIN.out 22 (by simp [wrongN, h1, h2, h3, h4]))
    go_wp2
    go_ret
    exact FI.out
  by_cases h50 : ca = 4611686018427387904
  rotate_left
  · have h5 : (ca == 4611686018427387904) = false := by simp [h50]
    have h51 : decide (ca = 4611686018427387904) = false := by simp [h50]
    cases h6 : decide (ca < lo)
    rotate_left
    · have FI := Lib.hid (FIN.out 22 (by simp [wrongN, h1, h2, h3, h4, bne, h5, h6]))
      go_wp2
      go_ret
      exact FI.out
    cases h7 : decide (ca > 4398046511104)
    rotate_left
    · have FI := Lib.hid (FIN.out 22 (by simp [wrongN, h1, h2, h3, h4, bne, h5, h6, h7]))
      go_wp2
      go_ret
      exact FI.out
    go_wp2_with fail
    refine (within_any _ _).mono ?_
    rintro e w1 ⟨rfl, rfl⟩
    cases h8 : inB co
    · have FI := Lib.hid (FIN.out 23 (by simp [wrongN, h1, h2, h3, h4, bne, h5, h6, h7, h8]))
      go_wp2
      go_ret
      exact FI.out
    · have FI := Lib.hid (FIN.out 0 (by simp [wrongN, h1, h2, h3, h4, bne, h5, h6, h7, h8]))
      go_wp2
      go_ret
      exact FI.out
  · subst h50
    go_wp2_with fail
    refine (within_any _ _).mono ?_
    rintro e w1 ⟨rfl, rfl⟩
    cases h8 : inB co
    · have FI := Lib.hid (FIN.out 23 (by simp [wrongN, h1, h2, h3, h4, bne, h8]))
      go_wp2
      go_ret
      exact FI.out
    · have FI := Lib.hid (FIN.out 0 (by simp [wrongN, h1, h2, h3, h4, bne, h8]))
      go_wp2
      go_ret
      exact FI.out

def ArcPost (w : World) (x : Nat) (e : Ending) (w' : World) : Prop := e = .returned (.int .i64 (x : Int)) ∧ Below w.heap.size w w'

set_option maxHeartbeats 1600000 in
theorem arc_any (a : PArc) (m : Nat) (w : World) : Calls Try.prog 28 #[a.val, .int .i64 (m : Int)] w (ArcPost w (wrongN a m)) := by
  obtain ⟨fr, dt, lo, ca, co⟩ := a
  show Calls Try.prog 28 #[.agg #[.int .i64 fr, .int .i64 dt, .int .i64 lo, .int .i64 ca, .int .i64 co], .int .i64 (m : Int)] w _
  have HB := Lib.hid ((Below.refl w.heap.size w).alloc (Nat.le_refl _) (.cells #[.int .i64 fr, .int .i64 dt, .int .i64 lo, .int .i64 ca, .int .i64 co] 36))
  have fin : ∀ x : Nat, wrongN ⟨fr, dt, lo, ca, co⟩ m = x → ArcPost w (wrongN ⟨fr, dt, lo, ca, co⟩ m) (.returned (.int .i64 (x : Int))) (w.alloc (.cells #[.int .i64 fr, .int .i64 dt, .int .i64 lo, .int .i64 ca, .int .i64 co] 36)) := by
    rintro x rfl
    exact ⟨rfl, HB.out⟩
  have FIN := Lib.hid fin
  clear fin
  cases h1 : nodeB fr m
  · have FI := Lib.hid (FIN.out 21 (by simp [wrongN, h1]))
    by_cases hf : fr < 0
    · clear h1
      go_enter Try.func28, Try.ntmps28
      go_wp2
      go_ret
      exact FI.out
    · have hf2 : (m : Int) ≤ fr := by simp [nodeB] at h1; omega
      clear h1
      go_enter Try.func28, Try.ntmps28
      go_wp2
      go_ret
      exact FI.out
  have hf1 : ¬ fr < 0 := by simp [nodeB] at h1; omega
  have hf2 : fr < (m : Int) := by simp [nodeB] at h1; omega
  cases h2 : nodeB dt m
  · have FI := Lib.hid (FIN.out 21 (by simp [wrongN, h1, h2]))
    by_cases hf : dt < 0
    · clear h1 h2
      go_enter Try.func28, Try.ntmps28
      go_wp2
      go_ret
      exact FI.out
    · have hf3 : (m : Int) ≤ dt := by simp [nodeB] at h2; omega
      clear h1 h2
      go_enter Try.func28, Try.ntmps28
      go_wp2
      go_ret
      exact FI.out
  have hg1 : ¬ dt < 0 := by simp [nodeB] at h2; omega
  have hg2 : dt < (m : Int) := by simp [nodeB] at h2; omega
  have h12 := Lib.hid (And.intro h1 h2)
  clear h1 h2
  go_enter Try.func28, Try.ntmps28
  go_upto_region 3 with fail
  cases h3 : decide (lo < 0)
  rotate_left
  · have FI := Lib.hid (FIN.out 22 (by simp [wrongN, h12.out, h3]))
    go_wp2
    go_ret
    exact FI.out
  cases h4 : decide (lo > 4398046511104)
  rotate_left
  · have FI := Lib.hid (FIN.out 22 (by simp [wrongN, h12.out, h3, h4]))
    go_wp2
    go_ret
    exact FI.out
  by_cases h50 : ca = 4611686018427387904
  rotate_left
  · have h5 : (ca == 4611686018427387904) = false := by simp [h50]
    have h51 : decide (ca = 4611686018427387904) = false := by simp [h50]
    cases h6 : decide (ca < lo)
    rotate_left
    · have FI := Lib.hid (FIN.out 22 (by simp [wrongN, h12.out, h3, h4, bne, h5, h6]))
      go_wp2
      go_ret
      exact FI.out
    cases h7 : decide (ca > 4398046511104)
    rotate_left
    · have FI := Lib.hid (FIN.out 22 (by simp [wrongN, h12.out, h3, h4, bne, h5, h6, h7]))
      go_wp2
      go_ret
      exact FI.out
    go_wp2_with fail
    refine (in_any _ _).mono ?_
    rintro e w1 ⟨rfl, rfl⟩
    cases h8 : inB co
    · have FI := Lib.hid (FIN.out 23 (by simp [wrongN, h12.out, h3, h4, bne, h5, h6, h7, h8]))
      go_wp2
      go_ret
      exact FI.out
    · have FI := Lib.hid (FIN.out 0 (by simp [wrongN, h12.out, h3, h4, bne, h5, h6, h7, h8]))
      go_wp2
      go_ret
      exact FI.out
  · subst h50
    go_wp2_with fail
    refine (in_any _ _).mono ?_
    rintro e w1 ⟨rfl, rfl⟩
    cases h8 : inB co
    · have FI := Lib.hid (FIN.out 23 (by simp [wrongN, h12.out, h3, h4, bne, h8]))
      go_wp2
      go_ret
      exact FI.out
    · have FI := Lib.hid (FIN.out 0 (by simp [wrongN, h12.out, h3, h4, bne, h8]))
      go_wp2
      go_ret
      exact FI.out
end Go.Proofs.Yteepfhdndhepmaa
