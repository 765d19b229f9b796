/-
  inst.Same, and the reference's Same.
-/
import Derived.Test.YteepfhdndhepmaaInE
namespace Go.Proofs.Yteepfhdndhepmaa
open Go.RowKit

theorem same_any {S T : Nat → Prop} (va vb : Value) (s t : List Int) (l m : List PArc) (w : World) (ha : InstAt w S va s l) (hb : InstAt w T vb t m) (h1 : s.length ≤ maxLen) (h2 : t.length ≤ maxLen) (h3 : l.length ≤ maxLen) (h4 : m.length ≤ maxLen) :
    Calls Try.prog 24 #[va, vb] w fun e w' => e = .returned (.bool (decide (s = t) && decide (l = m))) ∧ Below w.heap.size w w' := by
  obtain ⟨A, c, B, d, rfl, ha1, ha2⟩ := ha
  obtain ⟨A', c', B', d', rfl, hb1, hb2⟩ := hb
  have HR := Lib.hid (And.intro ha1 (And.intro ha2 (And.intro hb1 hb2)))
  clear ha1 ha2 hb1 hb2
  have hbl : Below w.heap.size w ((w.alloc (.cells #[.slice A s.length c, .slice B l.length d] 26)).alloc (.cells #[.slice A' t.length c', .slice B' m.length d'] 26)) := two_new w _ _
  have hB1 : Blk ((w.alloc (.cells #[.slice A s.length c, .slice B l.length d] 26)).alloc (.cells #[.slice A' t.length c', .slice B' m.length d'] 26)) w.heap.size 26 #[.slice A s.length c, .slice B l.length d] := (Blk.new _ _ _).alloc _
  have hB2 : Blk ((w.alloc (.cells #[.slice A s.length c, .slice B l.length d] 26)).alloc (.cells #[.slice A' t.length c', .slice B' m.length d'] 26)) (w.heap.size + 1) 26 #[.slice A' t.length c', .slice B' m.length d'] := Blk.new_ (by simp)
  have HB := Lib.hid (And.intro hbl (And.intro hB1 hB2))
  clear hbl hB1 hB2
  go_enter Try.func24, Try.ntmps24
  go_wp2_with fail
  refine (equal64_any A A' c c' s t _ (HR.out.1.below HB.out.1) (HR.out.2.2.1.below HB.out.1) h1 h2).mono ?_
  rintro e w1 ⟨rfl, hb1⟩
  have g1 := HB.out.2.1.below hb1 HB.out.2.1.lt
  have g2 := HB.out.2.2.below hb1 HB.out.2.2.lt
  have d1 : w1.cell? ⟨w.heap.size, 1, none⟩ = some (.slice B l.length d) := g1.cell 1
  have d2 : w1.cell? ⟨w.heap.size + 1, 1, none⟩ = some (.slice B' m.length d') := g2.cell 1
  have H1 := Lib.hid (below_step HB.out.1 hb1 HB.out.1.size)
  clear hb1 g1 g2
  cases hst : decide (s = t)
  · go_wp2_with fail
    go_ret
    exact ⟨ret_bool (by rw [hst, Bool.false_and]), H1.out⟩
  · go_wp2_with fail
    refine (equalA_any B B' d d' l m _ (HR.out.2.1.below H1.out) (HR.out.2.2.2.below H1.out) h3 h4).mono ?_
    rintro e w2 ⟨rfl, hb2⟩
    have H2 := Lib.hid (below_step H1.out hb2 H1.out.size)
    clear hb2
    go_wp2_with fail
    go_ret
    exact ⟨ret_bool (by rw [hst, Bool.true_and]), H2.out⟩

set_option maxHeartbeats 1600000 in
theorem refsame_any {S T : Nat → Prop} (va vb : Value) (s t : List Int) (l m : List PArc) (w : World) (ha : InstAt w S va s l) (hb : InstAt w T vb t m) (h1 : s.length ≤ maxLen) (h2 : t.length ≤ maxLen) (h3 : l.length ≤ maxLen) (h4 : m.length ≤ maxLen) :
    Calls Try.prog 15 #[va, vb] w fun e w' => e = .returned (.bool (decide (s = t) && decide (l = m))) ∧ Below w.heap.size w w' := by
  obtain ⟨A, c, B, d, rfl, ha1, ha2⟩ := ha
  obtain ⟨A', c', B', d', rfl, hb1, hb2⟩ := hb
  have HR := Lib.hid (And.intro ha1 (And.intro ha2 (And.intro hb1 hb2)))
  clear ha1 ha2 hb1 hb2
  have hbl : Below w.heap.size w ((w.alloc (.cells #[.slice A s.length c, .slice B l.length d] 26)).alloc (.cells #[.slice A' t.length c', .slice B' m.length d'] 26)) := two_new w _ _
  have hB1 : Blk ((w.alloc (.cells #[.slice A s.length c, .slice B l.length d] 26)).alloc (.cells #[.slice A' t.length c', .slice B' m.length d'] 26)) w.heap.size 26 #[.slice A s.length c, .slice B l.length d] := (Blk.new _ _ _).alloc _
  have hB2 : Blk ((w.alloc (.cells #[.slice A s.length c, .slice B l.length d] 26)).alloc (.cells #[.slice A' t.length c', .slice B' m.length d'] 26)) (w.heap.size + 1) 26 #[.slice A' t.length c', .slice B' m.length d'] := Blk.new_ (by simp)
  have HB := Lib.hid (And.intro hbl (And.intro hB1 hB2))
  clear hbl hB1 hB2
  unfold maxLen at h3 h4
  go_enter Try.func15, Try.ntmps15
  go_wp2_with fail
  refine (nums_any A A' c c' s t _ (HR.out.1.below HB.out.1) (HR.out.2.2.1.below HB.out.1) h1 h2).mono ?_
  rintro e w1 ⟨rfl, hb1⟩
  have g1 := HB.out.2.1.below hb1 HB.out.2.1.lt
  have g2 := HB.out.2.2.below hb1 HB.out.2.2.lt
  have d1 : w1.cell? ⟨w.heap.size, 1, none⟩ = some (.slice B l.length d) := g1.cell 1
  have d2 : w1.cell? ⟨w.heap.size + 1, 1, none⟩ = some (.slice B' m.length d') := g2.cell 1
  have H1 := Lib.hid (below_step HB.out.1 hb1 HB.out.1.size)
  clear hb1 g1 g2
  cases hst : decide (s = t)
  · have FI := Lib.hid (And.intro (show Ending.returned (.bool false) = .returned (.bool (decide (s = t) && decide (l = m))) by rw [hst, Bool.false_and]) H1.out)
    go_wp2_with fail
    go_ret
    exact FI.out
  by_cases hl : l.length = m.length
  rotate_left
  · have hlm : decide (l = m) = false := by
      rw [decide_eq_false_iff_not]
      rintro rfl
      exact hl rfl
    have hb : ((l.length : Int) == (m.length : Int)) = false := by simp; omega
    have FI := Lib.hid (And.intro (show Ending.returned (.bool false) = .returned (.bool (decide (s = t) && decide (l = m))) by rw [hlm, Bool.and_false]) H1.out)
    clear hlm
    go_wp2_with fail
    go_ret
    exact FI.out
  have hb : ((l.length : Int) == (m.length : Int)) = true := by simp [hl]
  have hst' := Lib.hid hst
  clear hst
  rw [← hl] at d2 h4
  have Hl := Lib.hid hl
  have HR2 := HR.out.2.2.2
  rw [← hl] at HR2
  have HRB := Lib.hid HR2
  clear HR2
  have HR1 := Lib.hid HR.out.2.1
  rw [← hl] at hb ⊢
  clear HR HB hl
  generalize hn : l.length = n at *
  have Hn := Lib.hid hn
  clear hn
  have hgd : Try.prog.eqGuardType Try.prog.depth 36 = false := by kernel_rfl
  go_wp2_with fail
  go_loopw [5] (fun u wr => ∃ k : Nat, u = .int .i64 k ∧ k ≤ n ∧ decide (l = m) = decide (l.drop k = m.drop k) ∧ (∃ j, wr = w1.drewN j))
    (fun u _ => n - (intOf u).toNat)
  case atStart => exact ⟨0, rfl, Nat.zero_le _, rfl, 0, rfl⟩
  case round =>
    obtain ⟨k, rfl, hk, hd, j, rfl⟩ := hrel
    have q1 : (w1.drewN j).cell? ⟨w.heap.size, 1, none⟩ = some (.slice B n d) := d1
    have q2 : (w1.drewN j).cell? ⟨w.heap.size + 1, 1, none⟩ = some (.slice B' n d') := d2
    by_cases hlt : k < n
    · obtain ⟨x, hx⟩ : ∃ x, l[k]? = some x := ⟨_, List.getElem?_eq_getElem (by have := Hn.out; omega)⟩
      obtain ⟨y, hy⟩ : ∃ y, m[k]? = some y := ⟨_, List.getElem?_eq_getElem (by have := Hn.out; have := Hl.out; omega)⟩
      obtain ⟨B1, O1, rfl, _, f0, f1, f2, f3, f4⟩ := ((HR1.out.below H1.out).drewN j).arc hx Hn.out
      obtain ⟨B2, O2, rfl, _, g0, g1, g2, g3, g4⟩ := ((HRB.out.below H1.out).drewN j).arc hy (by have := Hn.out; have := Hl.out; omega)
      rw [eq_step hx hy] at hd
      have H := Lib.hid hd
      clear hd hx hy
      generalize hwr : w1.drewN j = wr at *
      have i1 : (0 : Int) ≤ (k : Int) := by omega
      have i2 : (k : Int) < (n : Int) := by omega
      have heq := arc_eq x y
      have Hwr := Lib.hid hwr
      clear hwr d1 d2
      by_cases hxy : x = y
      · have hb : decide (x = y) = true := by simp [hxy]
        have HXY := Lib.hid hxy
        clear hxy
        go_wp2_with fail
        go_quiet (fail)
        go_wp2_with fail
        go_roundw
        case rel =>
          refine ⟨k + 1, by go_num, hlt, by rw [H.out, hb, Bool.true_and], ?_⟩
          rw [← Hwr.out]
          exact ⟨_, World.drewN_drewN _ _ _⟩
        case measure => simp [intOf]; omega
      · have hb : decide (x = y) = false := by simp [hxy]
        have FI := Lib.hid (And.intro (show Ending.returned (.bool false) = .returned (.bool (decide (s = t) && decide (l = m))) by rw [H.out, hb, Bool.false_and, Bool.and_false]) (show ∀ i, Below w.heap.size w (wr.drewN i) from fun i => by rw [← Hwr.out]; exact below_drewN (below_drewN H1.out j) i))
        go_wp2_with fail
        go_quiet (fail)
        go_wp2_with fail
        go_ret
        exact ⟨FI.out.1, FI.out.2 _⟩
    · obtain rfl : k = n := by omega
      have e1 : decide (l = m) = true := by
        rw [hd, List.drop_of_length_le (by have := Hn.out; omega), List.drop_of_length_le (by have := Hn.out; have := Hl.out; omega)]
        rfl
      have FI := Lib.hid (And.intro (show Ending.returned (.bool true) = .returned (.bool (decide (s = t) && decide (l = m))) by rw [e1, hst'.out]; rfl) (below_drewN H1.out j))
      clear hd e1
      go_wp2
      go_ret
      exact FI.out
end Go.Proofs.Yteepfhdndhepmaa
