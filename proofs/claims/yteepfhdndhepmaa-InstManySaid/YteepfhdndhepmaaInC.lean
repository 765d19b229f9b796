/-
  The reference's Right.
-/
import Derived.Test.YteepfhdndhepmaaInB
import Derived.StillTailTactics
namespace Go.Proofs.Yteepfhdndhepmaa
open Go.RowKit

set_option maxHeartbeats 3200000 in
theorem refright_any {S : Nat → Prop} (v : Value) (s : List Int) (l : List PArc) (w : World) (hv : InstAt w S v s l) (hs : s.length ≤ maxLen) (hl : l.length ≤ maxLen) :
    Calls Try.prog 12 #[v] w (RightPost .i64 w (rightN s l)) := by
  unfold maxLen at hs hl
  obtain ⟨A, c, B, d, rfl, hr1, hr2⟩ := hv
  have HR := Lib.hid (And.intro hr1 hr2)
  clear hr1 hr2
  have HB := Lib.hid ((Below.refl w.heap.size w).alloc (Nat.le_refl _) (.cells #[.slice A s.length c, .slice B l.length d] 26))
  by_cases h64 : s.length > 64
  · have FI : RightPost .i64 w (rightN s l) (.returned (.int .i64 20)) (w.alloc (.cells #[.slice A s.length c, .slice B l.length d] 26)) := ⟨by simp [rightN, h64], HB.out⟩
    have FI := Lib.hid FI
    go_enter Try.func12, Try.ntmps12
    go_wp2
    go_ret
    exact FI.out
  by_cases h256 : l.length > 256
  · have FI : RightPost .i64 w (rightN s l) (.returned (.int .i64 20)) (w.alloc (.cells #[.slice A s.length c, .slice B l.length d] 26)) := ⟨by simp [rightN, h256], HB.out⟩
    have FI := Lib.hid FI
    go_enter Try.func12, Try.ntmps12
    go_wp2
    go_ret
    exact FI.out
  have hdef : rightN s l = if arcsBad s.length l = 0 then supBad s 0 else arcsBad s.length l := by simp [rightN, h64, h256]
  have HD := Lib.hid hdef
  clear hdef
  have HC := Lib.hid ((Blk.new w 26 #[.slice A s.length c, .slice B l.length d]))
  generalize hn : s.length = n at *
  have Hn := Lib.hid hn
  generalize hm : l.length = m at *
  have Hm := Lib.hid hm
  clear hn hm
  go_enter Try.func12, Try.ntmps12
  go_wp2_with fail
  go_loopw [3, 4] (fun u _ wr => ∃ k : Nat, u = .int .i64 k ∧ k ≤ m ∧ arcsBad n l = arcsBad n (l.drop k) ∧ Below w.heap.size w wr ∧ Blk wr w.heap.size 26 #[.slice A n c, .slice B m d])
    (fun u _ _ => m - (intOf u).toNat)
  case atStart => exact ⟨0, rfl, Nat.zero_le _, rfl, HB.out, HC.out⟩
  case round =>
    obtain ⟨k, rfl, hk, hbad, hbl, hb⟩ := hrel
    have hbk : w.heap.size < wr.heap.size := hb.lt
    have c0 : wr.cell? ⟨w.heap.size, 0, none⟩ = some (.slice A n c) := hb.cell 0
    have c1 : wr.cell? ⟨w.heap.size, 1, none⟩ = some (.slice B m d) := hb.cell 1
    by_cases hlt : k < m
    · obtain ⟨a, ha⟩ : ∃ a, l[k]? = some a := ⟨_, List.getElem?_eq_getElem (by have := Hm.out; omega)⟩
      obtain ⟨B2, O2, rfl, _, e0, e1, e2, e3, e4⟩ := (HR.out.2.below hbl).arc ha Hm.out
      have H := Lib.hid (And.intro hbad (And.intro hbl (And.intro hb ha)))
      clear hbad hbl hb ha
      have i1 : (0 : Int) ≤ (k : Int) := by omega
      have i2 : (k : Int) < (m : Int) := by omega
      go_wp2_with fail
      go_still_tail 8, (by kernel_rfl)
      go_wp2_with fail
      refine (arc_any a n _).mono ?_
      rintro e w1 ⟨rfl, hb1⟩
      have hbl1 : Below w.heap.size w w1 := below_step H.out.2.1 (show Below wr.heap.size wr w1 from ⟨hb1.os, hb1.tape, hb1.output, hb1.size, hb1.block⟩) (by omega)
      have hB1 := H.out.2.2.1.below (show Below wr.heap.size wr w1 from ⟨hb1.os, hb1.tape, hb1.output, hb1.size, hb1.block⟩) hbk
      have H1 := Lib.hid (And.intro hbl1 hB1)
      clear hb1 hbl1 hB1
      generalize hx : wrongN a n = x at *
      have Hx := Lib.hid hx
      clear hx
      by_cases hx0 : x = 0
      · subst hx0
        go_wp2_with fail
        go_roundw
        case rel =>
          refine ⟨k + 1, by go_num, hlt, ?_, H1.out.1, H1.out.2⟩
          rw [H.out.1, arcsBad_step H.out.2.2.2, if_pos Hx.out]
        case measure => simp [intOf]; omega
      · have hx1 : ((x : Int) == 0) = false := by simp; omega
        have hx2 : ¬ (x : Int) = 0 := by omega
        have FI : RightPost .i64 w (rightN s l) (.returned (.int .i64 (x : Int))) w1 := by
          refine ⟨?_, H1.out.1⟩
          have h1 := H.out.1
          rw [arcsBad_step H.out.2.2.2, Hx.out, if_neg hx0] at h1
          rw [HD.out, h1, if_neg hx0]
        have FI := Lib.hid FI
        go_wp2
        go_ret
        exact FI.out
    · obtain rfl : k = m := by omega
      have hlm := Hm.out
      rw [List.drop_of_length_le (by omega)] at hbad
      have hbad' : rightN s l = supBad s 0 := by rw [HD.out, hbad]; rfl
      have HS := Lib.hid hbad'
      have H := Lib.hid (And.intro hbl hb)
      clear hbad hbad' hbl hb
      generalize wr = wo at *
      go_wp2_with fail
      go_loopw [5, 6] (fun t u wr => ∃ (k : Nat) (sum : Int), u = .int .i64 k ∧ t = .int .i64 sum ∧ k ≤ n ∧ supBad s 0 = supBad (s.drop k) sum ∧ -(k * 4398046511104) ≤ sum ∧ sum ≤ k * 4398046511104 ∧ wo = wr)
        (fun _ u _ => n - (intOf u).toNat)
      case atStart => exact ⟨0, 0, rfl, rfl, Nat.zero_le _, rfl, by simp, by simp, rfl⟩
      case round =>
        obtain ⟨j, sum, rfl, rfl, hj, hsup, hsu1, hsu2, rfl⟩ := hrel
        have hr1 := (HR.out.1.below H.out.1)
        have HI := Lib.hid hsup
        clear hsup
        by_cases hjl : j < n
        · obtain ⟨x, hx⟩ : ∃ x, s[j]? = some x := ⟨_, List.getElem?_eq_getElem (by have := Hn.out; omega)⟩
          obtain ⟨B1, O1, rfl, _, hc⟩ := hr1.addr (by omega)
          have e0 : wo.cell? ⟨B1, O1 + j, none⟩ = some (.int .i64 x) := hc _ _ (intl_at hx)
          have HX := Lib.hid hx
          clear hc hx hr1
          go_wp2_with fail
          refine (in_any x _).mono ?_
          rintro e w1 ⟨rfl, rfl⟩
          cases hin : inB x
          · have FI : RightPost .i64 w (rightN s l) (.returned (.int .i64 24)) wo := by
              refine ⟨?_, H.out.1⟩
              rw [HS.out, HI.out, supBad_step HX.out, hin]
              rfl
            have FI := Lib.hid FI
            go_wp2
            go_ret
            exact FI.out
          · have hx1 : -4398046511104 ≤ x ∧ x ≤ 4398046511104 := by simpa [inB] using hin
            obtain ⟨hx2, hx3⟩ := hx1
            go_wp2_with fail
            go_roundw
            case rel =>
              refine ⟨j + 1, sum + x, by go_num, rfl, hjl, ?_, by omega, by omega, trivial⟩
              rw [HI.out, supBad_step HX.out, hin]
              rfl
            case measure => simp [intOf]; omega
        · obtain rfl : j = n := by omega
          clear hr1
          have h1 := HI.out
          have hsn := Hn.out
          rw [List.drop_of_length_le (by omega)] at h1
          by_cases h0 : sum = 0
          · subst h0
            have FI : RightPost .i64 w (rightN s l) (.returned (.int .i64 0)) wo := by
              refine ⟨?_, H.out.1⟩
              rw [HS.out, h1]
              rfl
            have FI := Lib.hid FI
            clear h1 hsn hlm
            go_wp2
            go_ret
            exact FI.out
          · have h01 : (sum == 0) = false := by simp [h0]
            have FI : RightPost .i64 w (rightN s l) (.returned (.int .i64 25)) wo := by
              refine ⟨?_, H.out.1⟩
              rw [HS.out, h1]
              simp [supBad, h0]
            have FI := Lib.hid FI
            clear h1 hsn hlm
            go_wp2
            go_ret
            exact FI.out
end Go.Proofs.Yteepfhdndhepmaa
