/-
  inst: count, Span, and the reference's Span.
-/
import Derived.Test.YteepfhdndhepmaaInC
namespace Go.Proofs.Yteepfhdndhepmaa
open Go.RowKit

@[local simp] theorem below_drew_iff {B : Nat} {w w' : World} : Below B w w'.drew ↔ Below B w w' := ⟨fun h => ⟨h.os, h.tape, h.output, h.size, h.block⟩, fun h => ⟨h.os, h.tape, h.output, h.size, h.block⟩⟩
theorem held_step {w w0 wk w1 : World} {p : Addr} {u : Value} (c : wk.cell? p = some u) (h : Below w.heap.size w wk) (hb : Below w0.heap.size w0 w1) (he : w0 = wk ∨ w0 = wk.drew) : w1.cell? p = some u ∧ Below w.heap.size w w1 := by
  have hb' : Below wk.heap.size wk w1 := by
    rcases he with rfl | rfl
    · exact hb
    · exact ⟨hb.os, hb.tape, hb.output, hb.size, hb.block⟩
  exact ⟨(World.cell?_of_block (hb'.block _ (World.block_lt_of_cell? _ _ c))).trans c, h.trans (hb'.mono h.size)⟩

theorem span1_any (a : PArc) (w : World) : Calls Try.prog 31 #[a.val] w fun e w' => e = .returned (.bool (a.lo != 0)) ∧ Below w.heap.size w w' := by
  obtain ⟨fr, dt, lo, ca, co⟩ := a
  show Calls Try.prog 31 #[.agg #[.int .i64 fr, .int .i64 dt, .int .i64 lo, .int .i64 ca, .int .i64 co]] w _
  go_enter Try.func31, Try.ntmps31
  go_wp2
  go_ret
  exact ⟨ret_bool (by simp [bne]), (Below.refl _ _).alloc (Nat.le_refl _) _⟩

theorem spanN_step {l : List PArc} {k : Nat} {a : PArc} (h : l[k]? = some a) : spanN (l.take (k + 1)) = spanN (l.take k) + if a.lo != 0 then 1 else 0 := by
  unfold spanN
  rw [List.take_add_one, h, List.countP_append]
  congr 1
  by_cases h0 : a.lo = 0 <;> simp [h0]
theorem spanN_le (l : List PArc) : spanN l ≤ l.length := List.countP_le_length

theorem count_any {S : Nat → Prop} (A : Option Addr) (c : Nat) (l : List PArc) (w : World) (hr : Rd w S 5 A l.length (arcl l)) (hl : l.length ≤ maxLen) :
    Calls Try.prog 30 #[.slice A l.length c, .func (.func 31) #[] #[]] w fun e w' => e = .returned (.int .i64 (spanN l : Int)) ∧ Below w.heap.size w w' := by
  unfold maxLen at hl
  have HR := Lib.hid hr
  clear hr
  generalize hn : l.length = n at *
  have Hn := Lib.hid hn
  clear hn
  go_enter Try.func30, Try.ntmps30
  go_wp2_with fail
  go_loopw [5, 7, 10] (fun x _ u wr => ∃ k : Nat, u = .int .i64 k ∧ k ≤ n ∧ x = .int .i64 (spanN (l.take k) : Int) ∧ Below w.heap.size w wr)
    (fun _ _ u _ => n - (intOf u).toNat)
  case atStart => exact ⟨0, rfl, Nat.zero_le _, rfl, Below.refl _ _⟩
  case round =>
    obtain ⟨k, rfl, hk, rfl, hbl⟩ := hrel
    have hsp : spanN (l.take k) ≤ k := Nat.le_trans (spanN_le _) (by simp; omega)
    by_cases hlt : k < n
    · obtain ⟨a, ha⟩ : ∃ a, l[k]? = some a := ⟨_, List.getElem?_eq_getElem (by have := Hn.out; omega)⟩
      obtain ⟨B2, O2, rfl, _, e0, e1, e2, e3, e4⟩ := (HR.out.below hbl).arc ha Hn.out
      have hst := spanN_step ha
      have H := Lib.hid (And.intro hbl hst)
      have hsz := hbl.size
      clear hbl ha hst
      generalize spanN (l.take k) = sp at *
      go_wp2_with fail
      refine (span1_any a _).mono ?_
      rintro e w1 ⟨rfl, hb1⟩
      have H1 := Lib.hid (below_step (H.out.1.alloc (by omega) _) hb1 (by simp; omega))
      clear hb1
      cases h0 : (a.lo != 0)
      · go_wp2_with fail
        go_roundw
        case rel => exact ⟨k + 1, by go_num, hlt, by rw [H.out.2, h0]; simp, H1.out⟩
        case measure => simp [intOf]; omega
      · go_wp2_with fail
        go_roundw
        case rel => exact ⟨k + 1, by go_num, hlt, by rw [H.out.2, h0]; simp, H1.out⟩
        case measure => simp [intOf]; omega
    · obtain rfl : k = n := by omega
      have e1 : l.take k = l := List.take_of_length_le (by have := Hn.out; omega)
      have FI := Lib.hid (And.intro (show Ending.returned (.int .i64 (spanN (l.take k) : Int)) = .returned (.int .i64 (spanN l : Int)) by rw [e1]) hbl)
      clear e1 hbl
      go_wp2
      go_ret
      exact FI.out

theorem span_any {S : Nat → Prop} (v : Value) (s : List Int) (l : List PArc) (w : World) (hv : InstAt w S v s l) (hs : s.length ≤ 1000000) (hl : l.length ≤ 1000000) :
    Calls Try.prog 13 #[v] w fun e w' => e = .returned (.int .i64 ((s.length + l.length + spanN l : Nat) : Int)) ∧ Below w.heap.size w w' := by
  obtain ⟨A, c, B, d, rfl, hr1, hr2⟩ := hv
  have HR := Lib.hid (And.intro hr1 hr2)
  clear hr1 hr2
  have hsp := spanN_le l
  have hbl := (Below.refl w.heap.size w).alloc (Nat.le_refl _) (.cells #[.slice A s.length c, .slice B l.length d] 26)
  have HB := Lib.hid hbl
  clear hbl
  have iw : IntKind.i64.wrap ((s.length : Int) + (l.length : Int)) = (s.length : Int) + (l.length : Int) := IntWalk.i64_in _ (by omega)
  have iw2 : IntKind.i64.wrap ((s.length : Int) + (l.length : Int) + (spanN l : Int)) = (s.length : Int) + (l.length : Int) + (spanN l : Int) := IntWalk.i64_in _ (by omega)
  have HC := Lib.hid ((Blk.new w 26 #[.slice A s.length c, .slice B l.length d]))
  go_enter Try.func13, Try.ntmps13
  go_wp2_with fail
  generalize hw0 : w.alloc (.cells #[.slice A s.length c, .slice B l.length d] 26) = w0 at *
  clear hw0
  have c0 : w0.cell? ⟨w.heap.size, 0, none⟩ = some (.slice A s.length c) := HC.out.cell 0
  have c1 : w0.cell? ⟨w.heap.size, 1, none⟩ = some (.slice B l.length d) := HC.out.cell 1
  have hb0 : Below w.heap.size w w0 := HB.out
  have hw1 : w.heap.size < w0.heap.size := HC.out.lt
  go_region_held3 (fun w' => w'.cell? ⟨w.heap.size, 0, none⟩ = some (.slice A s.length c) ∧ w'.cell? ⟨w.heap.size, 1, none⟩ = some (.slice B l.length d) ∧ Below w.heap.size w w') (go_keep) ((
    go_at_call 30
    refine (count_any B d l _ (HR.out.2.below (by simp [*])) (by unfold maxLen; omega)).mono ?_
    rintro e w1 ⟨rfl, hb1⟩
    obtain ⟨hk1, hk2⟩ := held_step (w := w) (p := ⟨w.heap.size, 0, none⟩) (by assumption) (by assumption) hb1 (by first | exact .inl rfl | exact .inr rfl)
    obtain ⟨hk3, hk4⟩ := held_step (w := w) (p := ⟨w.heap.size, 1, none⟩) (by assumption) (by assumption) hb1 (by first | exact .inl rfl | exact .inr rfl)))
  all_goals go_wp2
  all_goals go_ret
  all_goals exact ⟨ret_int (by omega), by simp [*]⟩

theorem refspan_any {S : Nat → Prop} (v : Value) (s : List Int) (l : List PArc) (w : World) (hv : InstAt w S v s l) (hs : s.length ≤ 1000000) (hl : l.length ≤ 1000000) :
    Calls Try.prog 36 #[v] w fun e w' => e = .returned (.int .i64 ((s.length + l.length + spanN l : Nat) : Int)) ∧ Below w.heap.size w w' := by
  obtain ⟨A, c, B, d, rfl, hr1, hr2⟩ := hv
  have HR := Lib.hid (And.intro hr1 hr2)
  clear hr1 hr2
  have hbl := (Below.refl w.heap.size w).alloc (Nat.le_refl _) (.cells #[.slice A s.length c, .slice B l.length d] 26)
  have HB := Lib.hid hbl
  have HC := Lib.hid ((Blk.new w 26 #[.slice A s.length c, .slice B l.length d]))
  clear hbl
  generalize hn : s.length = n at *
  generalize hm : l.length = m at *
  have Hm := Lib.hid hm
  clear hm
  go_enter Try.func36, Try.ntmps36
  go_wp2_with fail
  generalize hw0 : w.alloc (.cells #[.slice A n c, .slice B m d] 26) = w0 at *
  have Hw0 := Lib.hid hw0
  clear hw0
  go_loopw [3, 4] (fun x u wr => ∃ k : Nat, u = .int .i64 k ∧ k ≤ m ∧ x = .int .i64 ((n + m + spanN (l.take k) : Nat) : Int) ∧ w0 = wr)
    (fun _ u _ => m - (intOf u).toNat)
  case atStart => exact ⟨0, rfl, Nat.zero_le _, by simp [spanN], rfl⟩
  case round =>
    obtain ⟨k, rfl, hk, rfl, rfl⟩ := hrel
    have hsp : spanN (l.take k) ≤ k := Nat.le_trans (spanN_le _) (by simp; omega)
    have c0 : w0.cell? ⟨w.heap.size, 0, none⟩ = some (.slice A n c) := HC.out.cell 0
    have c1 : w0.cell? ⟨w.heap.size, 1, none⟩ = some (.slice B m d) := HC.out.cell 1
    by_cases hlt : k < m
    · obtain ⟨a, ha⟩ : ∃ a, l[k]? = some a := ⟨_, List.getElem?_eq_getElem (by have := Hm.out; omega)⟩
      obtain ⟨B2, O2, rfl, _, e0, e1, e2, e3, e4⟩ := (HR.out.2.below HB.out).arc ha Hm.out
      have hst := spanN_step ha
      have H := Lib.hid hst
      clear ha hst
      generalize spanN (l.take k) = sp at *
      by_cases h0 : a.lo = 0
      · have h1 : (a.lo == 0) = true := by simp [h0]
        go_wp2_with fail
        go_roundw
        case rel => exact ⟨k + 1, by go_num, hlt, by rw [H.out]; simp [h0], trivial⟩
        case measure => simp [intOf]; omega
      · have h1 : (a.lo == 0) = false := by simp [h0]
        go_wp2_with fail
        go_roundw
        case rel => exact ⟨k + 1, by go_num, hlt, by rw [H.out]; simp [h0]; omega, trivial⟩
        case measure => simp [intOf]; omega
    · obtain rfl : k = m := by omega
      have e1 : l.take k = l := List.take_of_length_le (by have := Hm.out; omega)
      have FI := Lib.hid (And.intro (show Ending.returned (.int .i64 ((n + k + spanN (l.take k) : Nat) : Int)) = .returned (.int .i64 ((n + k + spanN l : Nat) : Int)) by rw [e1]) HB.out)
      clear e1
      go_wp2
      go_ret
      exact FI.out
end Go.Proofs.Yteepfhdndhepmaa
