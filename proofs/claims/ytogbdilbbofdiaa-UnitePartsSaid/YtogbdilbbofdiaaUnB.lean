/-
  unite: the walk of New: for each number, as many groups as it says (none below 0, 1000 at most), each number alone.
-/
import Derived.Test.YtogbdilbbofdiaaUnA
import Derived.Test.YtogbdilbbofdiaaUnT
import Derived.Deep.OwnRows
import Derived.Deep.DeepCutAuto
namespace Go.Proofs.Ytogbdilbbofdiaa
open Go.RowKit


theorem made_nats (n : Nat) : madeCells #[Value.int .i64 0] n = nats (List.replicate n 0) := by
  apply Array.ext'
  rw [toList_madeCells_one]
  simp [nats]

theorem made_ints (n : Nat) : madeCells #[Value.int .i64 0] n = ints (List.replicate n 0) := by
  apply Array.ext'
  rw [toList_madeCells_one]
  simp [ints]
theorem fill_set {α : Type} (f : Nat → α) (z : α) {i n : Nat} (h : i < n) : ((List.range i).map f ++ List.replicate (n - i) z).set i (f i) = (List.range (i + 1)).map f ++ List.replicate (n - (i + 1)) z := by
  rw [List.set_append_right _ _ (by simp)]
  obtain ⟨m, rfl⟩ : ∃ m, n = i + 1 + m := ⟨n - (i + 1), by omega⟩
  rw [show i + 1 + m - i = m + 1 by omega, show i + 1 + m - (i + 1) = m by omega]
  simp [List.range_succ, List.replicate_succ]
theorem fill_at {α : Type} (f : Nat → α) (z : α) {i n : Nat} (h : i < n) : ((List.range i).map f ++ List.replicate (n - i) z)[i]? = some z := by
  rw [List.getElem?_append_right (by simp)]
  simp [List.getElem?_replicate]
  omega
def fillU (n i : Nat) : List Nat := (List.range i).map id ++ List.replicate (n - i) 0
def fillM (n i : Nat) : List Int := (List.range i).map (fun _ => 1) ++ List.replicate (n - i) 0
theorem fillU_zero (n : Nat) : fillU n 0 = List.replicate n 0 := by simp [fillU]
theorem fillM_zero (n : Nat) : fillM n 0 = List.replicate n 0 := by simp [fillM]
theorem fillU_full (n : Nat) : fillU n n = List.range n := by simp [fillU]

/-- The blocks lie from B on. -/
def At.from (h : At) (B : Nat) : Prop := B ≤ h.p ∧ B ≤ h.u ∧ B ≤ h.m ∧ B ≤ h.l

theorem range_at {n i j : Nat} (h : (List.range n)[i]? = some j) : j = i ∧ i < n := by
  obtain ⟨h1, h2⟩ := List.getElem?_eq_some_iff.1 h
  simp at h1 h2
  exact ⟨h2.symm, h1⟩
theorem range_get {n i : Nat} (h : i < n) : (List.range n)[i]? = some i := by simp [h]

theorem sets_range {w : World} {h : At} {n : Nat} {many : List Int} (hr : Raw w h n (List.range n) many (List.range n) n) : SetsAt w h (List.range n) := by
  refine ⟨List.range n, List.range n, many, n, id, fun _ => 0, 0, by simpa using hr, ?_, ?_⟩
  · rw [List.length_range]
    refine ⟨by simp, fun i j h => ?_, fun i j h => ?_, fun i h => rfl, fun i j h hne => ?_, fun i h => Nat.le_refl _, fun i h => h, fun i h => range_get h⟩
    · obtain ⟨rfl, h⟩ := range_at h; exact h
    · obtain ⟨rfl, h⟩ := range_at h; rfl
    · obtain ⟨rfl, h⟩ := range_at h; exact absurd rfl hne
  · refine ⟨fun i l h => h, fun i j l h h' => ?_, fun i l h => ?_, fun i l h => ?_, ?_⟩
    · obtain ⟨rfl, _⟩ := range_at h; obtain ⟨rfl, _⟩ := range_at h'; rfl
    · obtain ⟨rfl, _⟩ := range_at h; exact Nat.le_refl _
    · obtain ⟨rfl, h2⟩ := range_at h; exact h
    · unfold roots
      rw [List.length_range]
      have : (List.range n).countP (fun i => (List.range n)[i]? == some i) = (List.range n).length := by
        rw [List.countP_eq_length]
        intro a ha
        rw [range_get (by simpa using ha)]
        simp
      rw [this, List.length_range]

set_option maxHeartbeats 800000 in
theorem new_any (a : Int) (n : Nat) (w : World) (hn : n ≤ 1000) (ha : max 0 (min a 1000) = n) :
    Calls Try.prog 9 #[.int .i64 a] w fun e w' => ∃ h : At, e = .returned (.pointer (some ⟨h.p, 0, none⟩)) ∧ SetsAt w' h (List.range n) ∧ h.from w.heap.size ∧ Below w.heap.size w w' := by
  have hmk := run_make_row' (P := Try.prog) 28 3 (.int .i64 0) 8 Try.underlying28 int_info rfl .i64 .i64 n (by omega) (by omega)
  go_enter Try.func9, Try.ntmps9
  have HA := Lib.hid ha
  clear ha
  go_upto_region 1 with fail
  go_cut [0] (fun s0 wx => w = wx ∧ s0 = .int .i64 (n : Int))
  case first =>
    go_wp2
    all_goals go_meet
    all_goals
      have := HA.out
      refine ⟨rfl, ?_⟩
      congr 1
      repeat' split
      all_goals omega
  case rest =>
  obtain ⟨rfl, rfl⟩ := hcut
  go_upto_region 2 with fail
  go_cut [3] (fun s3 wx => ∃ h : At, s3 = .pointer (some ⟨h.p, 0, none⟩) ∧ Raw wx h n (fillU n 0) (fillM n 0) (fillU n 0) n ∧ h.from w.heap.size ∧ Fr (fun _ => False) w wx)
  case first =>
    go_region
    all_goals go_wp2_with fail
    all_goals go_meet
    all_goals
      refine ⟨⟨_, _, _, _⟩, rfl, ⟨Blk.drew (Blk.new_ (by simp)), ?_, ?_, ?_, ?_, ?_, ?_, by simp [fillM], by simp [fillU], hn⟩, ?_, ?_⟩
      · rw [made_nats, fillU_zero]; repeat' (first | (refine Blk.new_ ?_; simp; done) | refine Blk.drew ?_ | refine Blk.alloc ?_ _)
      · rw [made_ints, fillM_zero]; repeat' (first | (refine Blk.new_ ?_; simp; done) | refine Blk.drew ?_ | refine Blk.alloc ?_ _)
      · rw [made_nats, fillU_zero]; repeat' (first | (refine Blk.new_ ?_; simp; done) | refine Blk.drew ?_ | refine Blk.alloc ?_ _)
      · simp <;> omega
      · simp <;> omega
      · simp <;> omega
      · simp [At.from] <;> omega
      · exact ((((((Fr.refl _ _).alloc _).alloc _).alloc _).alloc _).drew)
  case rest =>
    obtain ⟨h, rfl, hr, hfrom, hf⟩ := hcut
    have hpu := hr.pu
    have hpm := hr.pm
    have hpl := hr.pl
    have hum := hr.um
    have hul := hr.ul
    have hml := hr.ml
    have HR := Lib.hid (And.intro hr hf)
    have HF := Lib.hid hfrom
    clear hr hf hmk hfrom
    go_wp2
    go_loopw [4, 18] (fun _ u wr => ∃ i : Nat, i ≤ n ∧ u = .int .i64 i ∧ Raw wr h n (fillU n i) (fillM n i) (fillU n i) n ∧ Fr (fun _ => False) w wr)
      (fun _ u _ => n - (intOf u).toNat)
    case atStart =>
      obtain ⟨hr, hf⟩ := HR.out
      exact ⟨0, Nat.zero_le _, rfl, hr, hf⟩
    case round =>
      obtain ⟨i, hin, rfl, hr, hf⟩ := hrel
      by_cases hlt : i < n
      · have c0 : wr.cell? ⟨h.p, 0, none⟩ = some (.slice (some ⟨h.u, 0, none⟩) n n) := (hr.p.cell 0)
        have c1 : wr.cell? ⟨h.p, 1, none⟩ = some (.slice (some ⟨h.m, 0, none⟩) n n) := (hr.p.cell 1)
        have c2 : wr.cell? ⟨h.p, 2, none⟩ = some (.slice (some ⟨h.l, 0, none⟩) n n) := (hr.p.cell 2)
        have d0 : wr.cell? ⟨h.u, i, none⟩ = some (.int .i64 (0 : Int)) := (hr.u.cell i).trans (nats_at (fill_at id 0 hlt))
        have d1 : wr.cell? ⟨h.m, i, none⟩ = some (.int .i64 (0 : Int)) := (hr.m.cell i).trans (ints_at (fill_at _ 0 hlt))
        have d2 : wr.cell? ⟨h.l, i, none⟩ = some (.int .i64 (0 : Int)) := (hr.l.cell i).trans (nats_at (fill_at id 0 hlt))
        have f0 : wr.frozen? ⟨h.u, i, none⟩ = false := hr.u.frozen i
        have f1 : wr.frozen? ⟨h.m, i, none⟩ = false := hr.m.frozen i
        have f2 : wr.frozen? ⟨h.l, i, none⟩ = false := hr.l.frozen i
        have HR2 := Lib.hid (And.intro hr hf)
        clear hr hf HR
        go_wp2
        go_region
        go_wp2
        obtain ⟨hr, hf⟩ := HR2.out
        obtain ⟨b1, b2, b3, b4⟩ := HF.out
        go_roundw
        case rel =>
          refine ⟨i + 1, hlt, by go_num, ?_, ((((hf.setCell (.inr b2) _).setCell (.inr b3) _).setCell (.inr b4) _).drew)⟩
          have h1 := (((hr.setU i i).setM i 1).setL i i).drew
          have e1 : (fillU n i).set i i = fillU n (i + 1) := fill_set id 0 hlt
          have e2 : (fillM n i).set i 1 = fillM n (i + 1) := fill_set (fun _ => (1 : Int)) 0 hlt
          rw [e1, e2] at h1
          exact h1
        case measure => simp [intOf]; omega
      · have HR2 := Lib.hid (And.intro hr hf)
        clear hr hf HR
        go_wp2
        go_ret
        obtain ⟨hr, hf⟩ := HR2.out
        obtain rfl : i = n := by omega
        rw [fillU_full] at hr
        exact ⟨h, rfl, sets_range hr, HF.out, hf.none_⟩
end Go.Proofs.Ytogbdilbbofdiaa
