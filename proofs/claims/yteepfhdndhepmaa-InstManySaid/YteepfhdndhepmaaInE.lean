/-
  slices.Equal, inst.Same, and the reference's Nums, Same.
-/
import Derived.Test.YteepfhdndhepmaaInD
import Derived.Laws.StructEq
import Derived.KernelRfl
namespace Go.Proofs.Yteepfhdndhepmaa
open Go.RowKit

theorem eq_step {α : Type} [DecidableEq α] {l m : List α} {k : Nat} {a b : α} (ha : l[k]? = some a) (hb : m[k]? = some b) : decide (l.drop k = m.drop k) = (decide (a = b) && decide (l.drop (k + 1) = m.drop (k + 1))) := by
  rw [List.drop_eq_getElem_cons (List.getElem?_eq_some_iff.1 ha).1, List.drop_eq_getElem_cons (List.getElem?_eq_some_iff.1 hb).1, (List.getElem?_eq_some_iff.1 ha).2, (List.getElem?_eq_some_iff.1 hb).2]
  simp

theorem below_drewN {B : Nat} {a w : World} (h : Below B a w) (k : Nat) : Below B a (w.drewN k) := ⟨h.os, h.tape, h.output, h.size, h.block⟩

set_option maxHeartbeats 1600000 in
theorem equal64_any {S T : Nat → Prop} (A B : Option Addr) (c d : Nat) (s t : List Int) (w : World) (hs : Rd w S 1 A s.length (intl s)) (ht : Rd w T 1 B t.length (intl t)) (h1 : s.length ≤ maxLen) (h2 : t.length ≤ maxLen) :
    Calls Try.prog 41 #[.slice A s.length c, .slice B t.length d] w fun e w' => e = .returned (.bool (decide (s = t))) ∧ Below w.heap.size w w' := by
  unfold maxLen at h1 h2
  by_cases hl : s.length = t.length
  · rw [← hl] at ht h2 ⊢
    have HR := Lib.hid (And.intro hs (And.intro ht hl))
    clear hs ht hl
    generalize hn : s.length = n at *
    have Hn := Lib.hid hn
    clear hn
    go_enter Try.func41, Try.ntmps41
    go_wp2_with fail
    go_loopw [5, 13] (fun _ u wr => ∃ k : Nat, u = .int .i64 k ∧ k ≤ n ∧ decide (s = t) = decide (s.drop k = t.drop k) ∧ Below w.heap.size w wr)
      (fun _ u _ => n - (intOf u).toNat)
    case atStart => exact ⟨0, rfl, Nat.zero_le _, rfl, Below.refl _ _⟩
    case round =>
      obtain ⟨k, rfl, hk, hd, hbl⟩ := hrel
      by_cases hlt : k < n
      · obtain ⟨x, hx⟩ : ∃ x, s[k]? = some x := ⟨_, List.getElem?_eq_getElem (by have := Hn.out; omega)⟩
        obtain ⟨y, hy⟩ : ∃ y, t[k]? = some y := ⟨_, List.getElem?_eq_getElem (by have := Hn.out; have := HR.out.2.2; omega)⟩
        obtain ⟨B1, O1, rfl, _, hc1⟩ := (HR.out.1.below hbl).addr (by omega)
        obtain ⟨B2, O2, rfl, _, hc2⟩ := (HR.out.2.1.below hbl).addr (by omega)
        have e1 : wr.cell? ⟨B1, O1 + k, none⟩ = some (.int .i64 x) := hc1 _ _ (intl_at hx)
        have e2 : wr.cell? ⟨B2, O2 + k, none⟩ = some (.int .i64 y) := hc2 _ _ (intl_at hy)
        rw [eq_step hx hy] at hd
        have H := Lib.hid (And.intro hd hbl)
        clear hd hbl hx hy hc1 hc2
        have i1 : (0 : Int) ≤ (k : Int) := by omega
        have i2 : (k : Int) < (n : Int) := by omega
        by_cases hxy : x = y
        · have hb : (x == y) = true := by simp [hxy]
          go_wp2_with fail
          go_quiet (fail)
          go_wp2_with fail
          go_roundw
          case rel => exact ⟨k + 1, by go_num, hlt, by rw [H.out.1]; simp [hxy], below_drewN H.out.2 _⟩
          case measure => simp [intOf]; omega
        · have hb : (x == y) = false := by simp [hxy]
          go_wp2_with fail
          go_quiet (fail)
          go_wp2_with fail
          go_ret
          exact ⟨ret_bool (by rw [H.out.1]; simp [hxy]), below_drewN H.out.2 _⟩
      · obtain rfl : k = n := by omega
        have e1 : decide (s = t) = true := by
          rw [hd, List.drop_of_length_le (by have := Hn.out; omega), List.drop_of_length_le (by have := Hn.out; have := HR.out.2.2; omega)]
          rfl
        have FI := Lib.hid (And.intro (show Ending.returned (.bool true) = .returned (.bool (decide (s = t))) by rw [e1]) hbl)
        clear hd hbl e1
        go_wp2
        go_ret
        exact FI.out
  · have e1 : decide (s = t) = false := by
      rw [decide_eq_false_iff_not]
      rintro rfl
      exact hl rfl
    rw [e1]
    have hb : ((s.length : Int) == (t.length : Int)) = false := by simp; omega
    clear hs ht e1
    go_enter Try.func41, Try.ntmps41
    go_wp2
    go_ret
    exact ⟨rfl, Below.refl _ _⟩
set_option maxHeartbeats 1600000 in
theorem nums_any {S T : Nat → Prop} (A B : Option Addr) (c d : Nat) (s t : List Int) (w : World) (hs : Rd w S 1 A s.length (intl s)) (ht : Rd w T 1 B t.length (intl t)) (h1 : s.length ≤ maxLen) (h2 : t.length ≤ maxLen) :
    Calls Try.prog 35 #[.slice A s.length c, .slice B t.length d] w fun e w' => e = .returned (.bool (decide (s = t))) ∧ Below w.heap.size w w' := by
  unfold maxLen at h1 h2
  by_cases hl : s.length = t.length
  · rw [← hl] at ht h2 ⊢
    have HR := Lib.hid (And.intro hs (And.intro ht hl))
    clear hs ht hl
    generalize hn : s.length = n at *
    have Hn := Lib.hid hn
    clear hn
    go_enter Try.func35, Try.ntmps35
    go_wp2_with fail
    go_loopw [5] (fun u wr => ∃ k : Nat, u = .int .i64 k ∧ k ≤ n ∧ decide (s = t) = decide (s.drop k = t.drop k) ∧ Below w.heap.size w wr)
      (fun u _ => n - (intOf u).toNat)
    case atStart => exact ⟨0, rfl, Nat.zero_le _, rfl, Below.refl _ _⟩
    case round =>
      obtain ⟨k, rfl, hk, hd, hbl⟩ := hrel
      by_cases hlt : k < n
      · obtain ⟨x, hx⟩ : ∃ x, s[k]? = some x := ⟨_, List.getElem?_eq_getElem (by have := Hn.out; omega)⟩
        obtain ⟨y, hy⟩ : ∃ y, t[k]? = some y := ⟨_, List.getElem?_eq_getElem (by have := Hn.out; have := HR.out.2.2; omega)⟩
        obtain ⟨B1, O1, rfl, _, hc1⟩ := (HR.out.1.below hbl).addr (by omega)
        obtain ⟨B2, O2, rfl, _, hc2⟩ := (HR.out.2.1.below hbl).addr (by omega)
        have e1 : wr.cell? ⟨B1, O1 + k, none⟩ = some (.int .i64 x) := hc1 _ _ (intl_at hx)
        have e2 : wr.cell? ⟨B2, O2 + k, none⟩ = some (.int .i64 y) := hc2 _ _ (intl_at hy)
        rw [eq_step hx hy] at hd
        have H := Lib.hid (And.intro hd hbl)
        clear hd hbl hx hy hc1 hc2
        have i1 : (0 : Int) ≤ (k : Int) := by omega
        have i2 : (k : Int) < (n : Int) := by omega
        by_cases hxy : x = y
        · have hb : (x == y) = true := by simp [hxy]
          go_wp2_with fail
          go_quiet (fail)
          go_wp2_with fail
          go_roundw
          case rel => exact ⟨k + 1, by go_num, hlt, by rw [H.out.1]; simp [hxy], below_drewN H.out.2 _⟩
          case measure => simp [intOf]; omega
        · have hb : (x == y) = false := by simp [hxy]
          go_wp2_with fail
          go_quiet (fail)
          go_wp2_with fail
          go_ret
          exact ⟨ret_bool (by rw [H.out.1]; simp [hxy]), below_drewN H.out.2 _⟩
      · obtain rfl : k = n := by omega
        have e1 : decide (s = t) = true := by
          rw [hd, List.drop_of_length_le (by have := Hn.out; omega), List.drop_of_length_le (by have := Hn.out; have := HR.out.2.2; omega)]
          rfl
        have FI := Lib.hid (And.intro (show Ending.returned (.bool true) = .returned (.bool (decide (s = t))) by rw [e1]) hbl)
        clear hd hbl e1
        go_wp2
        go_ret
        exact FI.out
  · have e1 : decide (s = t) = false := by
      rw [decide_eq_false_iff_not]
      rintro rfl
      exact hl rfl
    rw [e1]
    have hb : ((s.length : Int) == (t.length : Int)) = false := by simp; omega
    clear hs ht e1
    go_enter Try.func35, Try.ntmps35
    go_wp2
    go_ret
    exact ⟨rfl, Below.refl _ _⟩
set_option maxHeartbeats 1600000 in
theorem ints_any {S T : Nat → Prop} (A B : Option Addr) (c d : Nat) (s t : List Int) (w : World) (hs : Rd w S 1 A s.length (intl s)) (ht : Rd w T 1 B t.length (intl t)) (h1 : s.length ≤ maxLen) (h2 : t.length ≤ maxLen) :
    Calls Try.prog 20 #[.slice A s.length c, .slice B t.length d] w fun e w' => e = .returned (.bool (decide (s = t))) ∧ Below w.heap.size w w' := by
  unfold maxLen at h1 h2
  by_cases hl : s.length = t.length
  · rw [← hl] at ht h2 ⊢
    have HR := Lib.hid (And.intro hs (And.intro ht hl))
    clear hs ht hl
    generalize hn : s.length = n at *
    have Hn := Lib.hid hn
    clear hn
    go_enter Try.func20, Try.ntmps20
    go_wp2_with fail
    go_loopw [5] (fun u wr => ∃ k : Nat, u = .int .i64 k ∧ k ≤ n ∧ decide (s = t) = decide (s.drop k = t.drop k) ∧ Below w.heap.size w wr)
      (fun u _ => n - (intOf u).toNat)
    case atStart => exact ⟨0, rfl, Nat.zero_le _, rfl, Below.refl _ _⟩
    case round =>
      obtain ⟨k, rfl, hk, hd, hbl⟩ := hrel
      by_cases hlt : k < n
      · obtain ⟨x, hx⟩ : ∃ x, s[k]? = some x := ⟨_, List.getElem?_eq_getElem (by have := Hn.out; omega)⟩
        obtain ⟨y, hy⟩ : ∃ y, t[k]? = some y := ⟨_, List.getElem?_eq_getElem (by have := Hn.out; have := HR.out.2.2; omega)⟩
        obtain ⟨B1, O1, rfl, _, hc1⟩ := (HR.out.1.below hbl).addr (by omega)
        obtain ⟨B2, O2, rfl, _, hc2⟩ := (HR.out.2.1.below hbl).addr (by omega)
        have e1 : wr.cell? ⟨B1, O1 + k, none⟩ = some (.int .i64 x) := hc1 _ _ (intl_at hx)
        have e2 : wr.cell? ⟨B2, O2 + k, none⟩ = some (.int .i64 y) := hc2 _ _ (intl_at hy)
        rw [eq_step hx hy] at hd
        have H := Lib.hid (And.intro hd hbl)
        clear hd hbl hx hy hc1 hc2
        have i1 : (0 : Int) ≤ (k : Int) := by omega
        have i2 : (k : Int) < (n : Int) := by omega
        by_cases hxy : x = y
        · have hb : (x == y) = true := by simp [hxy]
          go_wp2_with fail
          go_quiet (fail)
          go_wp2_with fail
          go_roundw
          case rel => exact ⟨k + 1, by go_num, hlt, by rw [H.out.1]; simp [hxy], below_drewN H.out.2 _⟩
          case measure => simp [intOf]; omega
        · have hb : (x == y) = false := by simp [hxy]
          go_wp2_with fail
          go_quiet (fail)
          go_wp2_with fail
          go_ret
          exact ⟨ret_bool (by rw [H.out.1]; simp [hxy]), below_drewN H.out.2 _⟩
      · obtain rfl : k = n := by omega
        have e1 : decide (s = t) = true := by
          rw [hd, List.drop_of_length_le (by have := Hn.out; omega), List.drop_of_length_le (by have := Hn.out; have := HR.out.2.2; omega)]
          rfl
        have FI := Lib.hid (And.intro (show Ending.returned (.bool true) = .returned (.bool (decide (s = t))) by rw [e1]) hbl)
        clear hd hbl e1
        go_wp2
        go_ret
        exact FI.out
  · have e1 : decide (s = t) = false := by
      rw [decide_eq_false_iff_not]
      rintro rfl
      exact hl rfl
    rw [e1]
    have hb : ((s.length : Int) == (t.length : Int)) = false := by simp; omega
    clear hs ht e1
    go_enter Try.func20, Try.ntmps20
    go_wp2
    go_ret
    exact ⟨rfl, Below.refl _ _⟩

theorem arc_eq (x y : PArc) (w : World) : (Op.equalIn 10000 36 (.agg #[.int .i64 x.fr, .int .i64 x.dt, .int .i64 x.lo, .int .i64 x.ca, .int .i64 x.co]) (.agg #[.int .i64 y.fr, .int .i64 y.dt, .int .i64 y.lo, .int .i64 y.ca, .int .i64 y.co])).run Try.prog w = .ok (decide (x = y)) w := by
  obtain ⟨a0, a1, a2, a3, a4⟩ := x
  obtain ⟨b0, b1, b2, b3, b4⟩ := y
  have u3 := Try.underlying3
  have z3 := Try.sizeOf3
  have u2 := Try.underlying2
  have z2 := Try.sizeOf2
  have hS : Try.prog.underlying 36 = some (.struct (Try.prog.fieldsOf 36)) := by kernel_rfl
  rw [show (10000 : Nat) = 9999 + 1 from rfl, run_equalIn_agg w 9999 36 _ _ hS (by kernel_rfl)]
  simp only [Program.fieldsOf, Try.underlying36]
  go_simp
  by_cases h0 : a0 = b0 <;> by_cases h1 : a1 = b1 <;> by_cases h2 : a2 = b2 <;> by_cases h3 : a3 = b3 <;> by_cases h4 : a4 = b4 <;> simp [h0, h1, h2, h3, h4]

set_option maxHeartbeats 1600000 in
theorem equalA_any {S T : Nat → Prop} (A B : Option Addr) (c d : Nat) (s t : List PArc) (w : World) (hs : Rd w S 5 A s.length (arcl s)) (ht : Rd w T 5 B t.length (arcl t)) (h1 : s.length ≤ maxLen) (h2 : t.length ≤ maxLen) :
    Calls Try.prog 42 #[.slice A s.length c, .slice B t.length d] w fun e w' => e = .returned (.bool (decide (s = t))) ∧ Below w.heap.size w w' := by
  unfold maxLen at h1 h2
  by_cases hl : s.length = t.length
  · rw [← hl] at ht h2 ⊢
    have HR := Lib.hid (And.intro hs (And.intro ht hl))
    clear hs ht hl
    generalize hn : s.length = n at *
    have Hn := Lib.hid hn
    clear hn
    go_enter Try.func42, Try.ntmps42
    go_wp2_with fail
    go_loopw [5, 13] (fun _ u wr => ∃ k : Nat, u = .int .i64 k ∧ k ≤ n ∧ decide (s = t) = decide (s.drop k = t.drop k) ∧ Below w.heap.size w wr)
      (fun _ u _ => n - (intOf u).toNat)
    case atStart => exact ⟨0, rfl, Nat.zero_le _, rfl, Below.refl _ _⟩
    case round =>
      obtain ⟨k, rfl, hk, hd, hbl⟩ := hrel
      by_cases hlt : k < n
      · obtain ⟨x, hx⟩ : ∃ x, s[k]? = some x := ⟨_, List.getElem?_eq_getElem (by have := Hn.out; omega)⟩
        obtain ⟨y, hy⟩ : ∃ y, t[k]? = some y := ⟨_, List.getElem?_eq_getElem (by have := Hn.out; have := HR.out.2.2; omega)⟩
        obtain ⟨B1, O1, rfl, _, f0, f1, f2, f3, f4⟩ := (HR.out.1.below hbl).arc hx Hn.out
        obtain ⟨B2, O2, rfl, _, g0, g1, g2, g3, g4⟩ := (HR.out.2.1.below hbl).arc hy (by have := Hn.out; have := HR.out.2.2; omega)
        rw [eq_step hx hy] at hd
        have H := Lib.hid (And.intro hd hbl)
        clear hd hbl hx hy
        have i1 : (0 : Int) ≤ (k : Int) := by omega
        have i2 : (k : Int) < (n : Int) := by omega
        have heq := arc_eq x y
        have hgd : Try.prog.eqGuardType Try.prog.depth 36 = false := by kernel_rfl
        by_cases hxy : x = y
        · have hb : decide (x = y) = true := by simp [hxy]
          have HXY := Lib.hid hxy
          clear hxy
          go_wp2_with fail
          go_quiet (fail)
          go_wp2_with fail
          go_roundw
          case rel => exact ⟨k + 1, by go_num, hlt, by rw [H.out.1, hb, Bool.true_and], below_drewN H.out.2 _⟩
          case measure => simp [intOf]; omega
        · have hb : decide (x = y) = false := by simp [hxy]
          go_wp2_with fail
          go_quiet (fail)
          go_wp2_with fail
          go_ret
          exact ⟨ret_bool (by rw [H.out.1, hb, Bool.false_and]), below_drewN H.out.2 _⟩
      · obtain rfl : k = n := by omega
        have e1 : decide (s = t) = true := by
          rw [hd, List.drop_of_length_le (by have := Hn.out; omega), List.drop_of_length_le (by have := Hn.out; have := HR.out.2.2; omega)]
          rfl
        have FI := Lib.hid (And.intro (show Ending.returned (.bool true) = .returned (.bool (decide (s = t))) by rw [e1]) hbl)
        clear hd hbl e1
        go_wp2
        go_ret
        exact FI.out
  · have e1 : decide (s = t) = false := by
      rw [decide_eq_false_iff_not]
      rintro rfl
      exact hl rfl
    rw [e1]
    have hb : ((s.length : Int) == (t.length : Int)) = false := by simp; omega
    clear hs ht e1
    go_enter Try.func42, Try.ntmps42
    go_wp2
    go_ret
    exact ⟨rfl, Below.refl _ _⟩
end Go.Proofs.Yteepfhdndhepmaa
