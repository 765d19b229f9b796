/-
  unite's reference: New, Least, Same, Join, Groups, as the plain functions on lists of least numbers.
-/
import Derived.Test.YtogbdilbbofdiaaUnF
import Derived.Test.YtogbdilbbofdiaaUnG
namespace Go.Proofs.Ytogbdilbbofdiaa
open Go.RowKit

/-- The reference's Sets, read: of each number the least one of its group. -/
def RefAt (w : World) (S : Nat → Prop) (v : Value) (L : List Nat) : Prop := ∃ A c, v = .agg #[.slice A L.length c] ∧ Rd w S 1 A L.length (natl L)
theorem RefAt.fr {w w' : World} {S T : Nat → Prop} {v : Value} {L : List Nat} (h : RefAt w S v L) (hf : Fr T w w') (hd : ∀ k, k < w.heap.size → S k → ¬ T k) : RefAt w' S v L := by
  obtain ⟨A, c, e, h1⟩ := h
  exact ⟨A, c, e, h1.fr hf hd⟩
theorem RefAt.below {w w' : World} {S : Nat → Prop} {v : Value} {L : List Nat} (h : RefAt w S v L) (hb : Below w.heap.size w w') : RefAt w' S v L := by
  obtain ⟨A, c, e, h1⟩ := h
  exact ⟨A, c, e, h1.below hb⟩
theorem RefAt.mono {w : World} {S T : Nat → Prop} {v : Value} {L : List Nat} (h : RefAt w S v L) (hs : ∀ k, k < w.heap.size → S k → T k) : RefAt w T v L := by
  obtain ⟨A, c, e, h1⟩ := h
  exact ⟨A, c, e, h1.mono hs (by omega)⟩

theorem ref_least {S : Nat → Prop} (A : Option Addr) (c : Nat) (L : List Nat) (a : Int) (w : World) (hr : Rd w S 1 A L.length (natl L)) (hn : L.length ≤ 100000) :
    Calls Try.prog 24 #[.agg #[.slice A L.length c], .int .i64 a] w fun e w' => e = .returned (.int .i64 (leastI L a)) ∧ Below w.heap.size w w' := by
  cases ha : of_ L a with
  | none =>
    rw [show leastI L a = -1 by simp [leastI, ha]]
    rcases of_none ha with h0 | h0
    · clear hr ha
      go_enter Try.func24, Try.ntmps24
      go_wp2
      go_ret
      exact ⟨rfl, (Below.refl _ _).alloc (Nat.le_refl _) _⟩
    · have h1 : ¬ a < 0 := by omega
      clear hr ha
      go_enter Try.func24, Try.ntmps24
      go_wp2
      go_ret
      exact ⟨rfl, (Below.refl _ _).alloc (Nat.le_refl _) _⟩
  | some l =>
    rw [show leastI L a = l by simp [leastI, ha]]
    obtain ⟨i, rfl, hi, hl⟩ := of_some ha
    obtain ⟨B, O, rfl, _, hc⟩ := hr.addr (by omega)
    have c0 := hc i _ (natl_at hl)
    have c1 : (w.alloc (.cells #[.slice (some ⟨B, O, none⟩) L.length c] 45)).cell? ⟨B, O + i, none⟩ = some (.int .i64 (l : Int)) := (World.cell?_alloc_lt _ _ _ (World.block_lt_of_cell? _ _ c0)).trans c0
    clear hr ha hc hl
    generalize L.length = n at *
    go_enter Try.func24, Try.ntmps24
    go_wp2
    go_ret
    exact ⟨rfl, (Below.refl _ _).alloc (Nat.le_refl _) _⟩

@[local simp] theorem below_drew_iff {B : Nat} {w w' : World} : Below B w w'.drew ↔ Below B w w' := ⟨fun h => ⟨h.os, h.tape, h.output, h.size, h.block⟩, fun h => ⟨h.os, h.tape, h.output, h.size, h.block⟩⟩

theorem held_step {w w0 wk w1 : World} {p : Addr} {u : Value} (c : wk.cell? p = some u) (h : Below w.heap.size w wk) (hb : Below w0.heap.size w0 w1) (he : w0 = wk ∨ w0 = wk.drew) : w1.cell? p = some u ∧ Below w.heap.size w w1 := by
  have hb' : Below wk.heap.size wk w1 := by
    rcases he with rfl | rfl
    · exact hb
    · exact ⟨hb.os, hb.tape, hb.output, hb.size, hb.block⟩
  exact ⟨(World.cell?_of_block (hb'.block _ (World.block_lt_of_cell? _ _ c))).trans c, h.trans (hb'.mono h.size)⟩

theorem sameB_eq (L : List Nat) (a b : Int) : sameB L a b = (decide (0 ≤ leastI L a) && (leastI L a == leastI L b)) := by
  unfold sameB leastI
  cases ha : of_ L a with
  | none => simp
  | some x =>
    cases hb : of_ L b with
    | none => simp
    | some y =>
      simp
      by_cases e : x = y
      · subst e; simp
      · have : ¬ ((x : Int) = y) := by omega
        have h1 : (x == y) = false := by simp [e]
        have h2 : ((x : Int) == (y : Int)) = false := by simp [this]
        rw [h1]
        simpa using this

set_option maxHeartbeats 1600000 in
theorem ref_same {S : Nat → Prop} (A : Option Addr) (c : Nat) (L : List Nat) (a b : Int) (w : World) (hr : Rd w S 1 A L.length (natl L)) (hn : L.length ≤ 100000) :
    Calls Try.prog 23 #[.agg #[.slice A L.length c], .int .i64 a, .int .i64 b] w fun e w' => e = .returned (.bool (sameB L a b)) ∧ Below w.heap.size w w' := by
  have hs := Lib.hid (sameB_eq L a b)
  have HR := Lib.hid hr
  clear hr
  go_enter Try.func23, Try.ntmps23
  go_wp2_with fail
  have cb : (w.alloc (.cells #[.slice A L.length c] 45)).cell? ⟨w.heap.size, 0, none⟩ = some (.slice A L.length c) := by simp
  have HB := Lib.hid (Below.refl w.heap.size w |>.alloc (Nat.le_refl _) (.cells #[.slice A L.length c] 45))
  have h0 : Below w.heap.size w (w.alloc (.cells #[.slice A L.length c] 45)) := HB.out
  rcases Classical.em (0 ≤ leastI L a) with hg | hg
  · have hg1 : decide (0 ≤ leastI L a) = true := by simpa using hg
    have hs1 := hs.out
    rw [hg1, Bool.true_and] at hs1
    have HS := Lib.hid hs1
    clear hs1
    go_region_held3 (fun w' => w'.cell? ⟨w.heap.size, 0, none⟩ = some (.slice A L.length c) ∧ Below w.heap.size w w') (go_keep) (((
      go_at_call 24
      refine (ref_least A c L _ _ (HR.out.below (by simp [*])) hn).mono ?_
      rintro e w1 ⟨rfl, hb⟩
      obtain ⟨hk1, hk2⟩ := held_step (w := w) (p := ⟨w.heap.size, 0, none⟩) (u := .slice A L.length c) (by assumption) (by assumption) hb (by first | exact .inl rfl | exact .inr rfl))))
    all_goals go_wp2
    all_goals go_ret
    all_goals exact ⟨ret_bool HS.out.symm, by simp [*]⟩
  · have hg1 : decide (0 ≤ leastI L a) = false := by simpa using hg
    have hs1 := hs.out
    rw [hg1, Bool.false_and] at hs1
    have HS := Lib.hid hs1
    clear hs1
    first
      | go_region_with (
            go_at_call 24
            refine (ref_least A c L _ _ (HR.out.below (by simp [*])) hn).mono ?_
            rintro e w1 ⟨rfl, hb⟩
            obtain ⟨hk1, hk2⟩ := held_step (w := w) (p := ⟨w.heap.size, 0, none⟩) (u := .slice A L.length c) (by assumption) (by assumption) hb (by first | exact .inl rfl | exact .inr rfl))
      | fail
    all_goals go_wp2
    all_goals go_ret
    all_goals exact ⟨ret_bool HS.out.symm, by simp [*]⟩
end Go.Proofs.Ytogbdilbbofdiaa
