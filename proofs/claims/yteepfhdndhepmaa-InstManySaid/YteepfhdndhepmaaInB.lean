/-
  inst: Right, and the reference's.
-/
import Derived.Test.YteepfhdndhepmaaInA
namespace Go.Proofs.Yteepfhdndhepmaa
open Go.RowKit

/-- An instance, read. -/
def InstAt (w : World) (S : Nat → Prop) (v : Value) (s : List Int) (l : List PArc) : Prop :=
  ∃ A c B d, v = .agg #[.slice A s.length c, .slice B l.length d] ∧ Rd w S 1 A s.length (intl s) ∧ Rd w S 5 B l.length (arcl l)
theorem InstAt.fr {w w' : World} {S T : Nat → Prop} {v : Value} {s : List Int} {l : List PArc} (h : InstAt w S v s l) (hf : Fr T w w') (hd : ∀ k, k < w.heap.size → S k → ¬ T k) : InstAt w' S v s l := by
  obtain ⟨A, c, B, d, e, h1, h2⟩ := h
  exact ⟨A, c, B, d, e, h1.fr hf hd, h2.fr hf hd⟩
theorem InstAt.below {w w' : World} {S : Nat → Prop} {v : Value} {s : List Int} {l : List PArc} (h : InstAt w S v s l) (hb : Below w.heap.size w w') : InstAt w' S v s l := by
  obtain ⟨A, c, B, d, e, h1, h2⟩ := h
  exact ⟨A, c, B, d, e, h1.below hb, h2.below hb⟩
theorem InstAt.mono {w : World} {S T : Nat → Prop} {v : Value} {s : List Int} {l : List PArc} (h : InstAt w S v s l) (hs : ∀ k, k < w.heap.size → S k → T k) : InstAt w T v s l := by
  obtain ⟨A, c, B, d, e, h1, h2⟩ := h
  exact ⟨A, c, B, d, e, h1.mono hs (by omega), h2.mono hs (by omega)⟩

/-- Arc k's cells. -/
theorem Rd.arc {w : World} {S : Nat → Prop} {A : Option Addr} {l : List PArc} {n k : Nat} {a : PArc} (h : Rd w S 5 A n (arcl l)) (hk : l[k]? = some a) (hn : l.length = n) :
    ∃ B O : Nat, A = some ⟨B, O, none⟩ ∧ S B ∧ w.cell? ⟨B, O + k * 5, none⟩ = some (.int .i64 a.fr) ∧ w.cell? ⟨B, O + k * 5 + 1, none⟩ = some (.int .i64 a.dt) ∧ w.cell? ⟨B, O + k * 5 + 2, none⟩ = some (.int .i64 a.lo) ∧
      w.cell? ⟨B, O + k * 5 + 3, none⟩ = some (.int .i64 a.ca) ∧ w.cell? ⟨B, O + k * 5 + 4, none⟩ = some (.int .i64 a.co) := by
  have hkl := (List.getElem?_eq_some_iff.1 hk).1
  obtain ⟨B, O, rfl, hS, hc⟩ := h.addr (by omega)
  refine ⟨B, O, rfl, hS, ?_, ?_, ?_, ?_, ?_⟩
  · exact hc _ _ (arcl_at (j := 0) hk rfl)
  · exact hc _ _ (arcl_at (j := 1) hk rfl)
  · exact hc _ _ (arcl_at (j := 2) hk rfl)
  · exact hc _ _ (arcl_at (j := 3) hk rfl)
  · exact hc _ _ (arcl_at (j := 4) hk rfl)

theorem drop_at {α : Type} {l : List α} {k : Nat} {a : α} (h : l[k]? = some a) : l.drop k = a :: l.drop (k + 1) := by
  obtain ⟨h1, h2⟩ := List.getElem?_eq_some_iff.1 h
  rw [List.drop_eq_getElem_cons h1, h2]
theorem arcsBad_step {n k : Nat} {l : List PArc} {a : PArc} (h : l[k]? = some a) : arcsBad n (l.drop k) = if wrongN a n = 0 then arcsBad n (l.drop (k + 1)) else wrongN a n := by
  rw [drop_at h]
  rfl
theorem supBad_step {k : Nat} {s : List Int} {x sum : Int} (h : s[k]? = some x) : supBad (s.drop k) sum = if inB x then supBad (s.drop (k + 1)) (sum + x) else 24 := by
  rw [drop_at h]
  rfl
theorem below_step {B : Nat} {a w w' : World} (h : Below B a w) (hs : Below w.heap.size w w') (hB : B ≤ w.heap.size) : Below B a w' := h.trans (hs.mono hB)

def RightPost (K : IntKind) (w : World) (x : Nat) (e : Ending) (w' : World) : Prop := e = .returned (.int K (x : Int)) ∧ Below w.heap.size w w'

set_option maxHeartbeats 3200000 in
theorem right_any {S : Nat → Prop} (v : Value) (s : List Int) (l : List PArc) (w : World) (hv : InstAt w S v s l) (hs : s.length ≤ maxLen) (hl : l.length ≤ maxLen) :
    Calls Try.prog 11 #[v] w (RightPost .u16 w (rightN s l)) := by
  unfold maxLen at hs hl
  obtain ⟨A, c, B, d, rfl, hr1, hr2⟩ := hv
  have HR := Lib.hid (And.intro hr1 hr2)
  clear hr1 hr2
  have HB := Lib.hid ((Below.refl w.heap.size w).alloc (Nat.le_refl _) (.cells #[.slice A s.length c, .slice B l.length d] 26))
  by_cases h64 : s.length > 64
  · have FI : RightPost .u16 w (rightN s l) (.returned (.int .u16 20)) (w.alloc (.cells #[.slice A s.length c, .slice B l.length d] 26)) := ⟨by simp [rightN, h64], HB.out⟩
    have FI := Lib.hid FI
    go_enter Try.func11, Try.ntmps11
    go_wp2
    go_ret
    exact FI.out
  by_cases h256 : l.length > 256
  · have FI : RightPost .u16 w (rightN s l) (.returned (.int .u16 20)) (w.alloc (.cells #[.slice A s.length c, .slice B l.length d] 26)) := ⟨by simp [rightN, h256], HB.out⟩
    have FI := Lib.hid FI
    go_enter Try.func11, Try.ntmps11
    go_wp2
    go_ret
    exact FI.out
  have hdef : rightN s l = if arcsBad s.length l = 0 then supBad s 0 else arcsBad s.length l := by simp [rightN, h64, h256]
  have HD := Lib.hid hdef
  clear hdef
  have HC := Lib.hid ((Blk.new w 26 #[.slice A s.length c, .slice B l.length d]))
  generalize hn : s.length = n at *
  have Hn := Lib.hid hn
  generalize hm : l.length = m at *
  have Hm := Lib.hid hm
  clear hn hm
  go_enter Try.func11, Try.ntmps11
  go_wp2_with fail
  go_loopw [4, 5, 22] (fun _ _ u wr => ∃ k : Nat, u = .int .i64 k ∧ k ≤ m ∧ arcsBad n l = arcsBad n (l.drop k) ∧ Below w.heap.size w wr ∧ Blk wr w.heap.size 26 #[.slice A n c, .slice B m d])
    (fun _ _ u _ => m - (intOf u).toNat)
  case atStart => exact ⟨0, rfl, Nat.zero_le _, rfl, HB.out, HC.out⟩
  case round =>
    obtain ⟨k, rfl, hk, hbad, hbl, hb⟩ := hrel
    have hbk : w.heap.size < wr.heap.size := hb.lt
    have c0 : wr.cell? ⟨w.heap.size, 0, none⟩ = some (.slice A n c) := hb.cell 0
    have c1 : wr.cell? ⟨w.heap.size, 1, none⟩ = some (.slice B m d) := hb.cell 1
    by_cases hlt : k < m
    · obtain ⟨a, ha⟩ : ∃ a, l[k]? = some a := ⟨_, List.getElem?_eq_getElem (by have := Hm.out; omega)⟩
      obtain ⟨B2, O2, rfl, _, e0, e1, e2, e3, e4⟩ := (HR.out.2.below hbl).arc ha Hm.out
      have H := Lib.hid (And.intro hbad (And.intro hbl (And.intro hb ha)))
      clear hbad hbl hb ha
      go_wp2_with fail
      refine (wrong_any a n _).mono ?_
      rintro e w1 ⟨rfl, hb1⟩
      have hbl1 : Below w.heap.size w w1 := below_step (H.out.2.1.alloc (by omega) _) hb1 (by simp; omega)
      have hB1 := (H.out.2.2.1.alloc (.cells #[Value.int IntKind.i64 a.fr, Value.int IntKind.i64 a.dt, Value.int IntKind.i64 a.lo, Value.int IntKind.i64 a.ca, Value.int IntKind.i64 a.co] 36)).below hb1 (by simp; omega)
      have H1 := Lib.hid (And.intro hbl1 hB1)
      clear hb1 hbl1 hB1
      generalize hx : wrongN a n = x at *
      have Hx := Lib.hid hx
      clear hx
      by_cases hx0 : x = 0
      · subst hx0
        go_wp2_with fail
        go_roundw
        case rel =>
          refine ⟨k + 1, by go_num, hlt, ?_, H1.out.1, H1.out.2⟩
          rw [H.out.1, arcsBad_step H.out.2.2.2, if_pos Hx.out]
        case measure => simp [intOf]; omega
      · have hx1 : ((x : Int) == 0) = false := by simp; omega
        have hx2 : ¬ (x : Int) = 0 := by omega
        have FI : RightPost .u16 w (rightN s l) (.returned (.int .u16 (x : Int))) w1 := by
          refine ⟨?_, H1.out.1⟩
          have h1 := H.out.1
          rw [arcsBad_step H.out.2.2.2, Hx.out, if_neg hx0] at h1
          rw [HD.out, h1, if_neg hx0]
        have FI := Lib.hid FI
        go_wp2
        go_ret
        exact FI.out
    · obtain rfl : k = m := by omega
      have hlm := Hm.out
      rw [List.drop_of_length_le (by omega)] at hbad
      have hbad' : rightN s l = supBad s 0 := by rw [HD.out, hbad]; rfl
      have HS := Lib.hid hbad'
      have H := Lib.hid (And.intro hbl hb)
      clear hbad hbad' hbl hb
      generalize wr = wo at *
      go_wp2_with fail
      go_loopw [6, 8, 38] (fun t _ u wr => ∃ (k : Nat) (sum : Int), u = .int .i64 k ∧ t = .int .i64 sum ∧ k ≤ n ∧ supBad s 0 = supBad (s.drop k) sum ∧ -(k * 4398046511104) ≤ sum ∧ sum ≤ k * 4398046511104 ∧ Below wo.heap.size wo wr)
        (fun _ _ u _ => n - (intOf u).toNat)
      case atStart => exact ⟨0, 0, rfl, rfl, Nat.zero_le _, rfl, by simp, by simp, Below.refl _ _⟩
      case round =>
        obtain ⟨j, sum, rfl, rfl, hj, hsup, hsu1, hsu2, hbi⟩ := hrel
        have hr1 := (HR.out.1.below H.out.1).below hbi
        have HI := Lib.hid (And.intro hsup hbi)
        clear hsup hbi
        by_cases hjl : j < n
        · obtain ⟨x, hx⟩ : ∃ x, s[j]? = some x := ⟨_, List.getElem?_eq_getElem (by have := Hn.out; omega)⟩
          obtain ⟨B1, O1, rfl, _, hc⟩ := hr1.addr (by omega)
          have e0 : wr.cell? ⟨B1, O1 + j, none⟩ = some (.int .i64 x) := hc _ _ (intl_at hx)
          have HX := Lib.hid hx
          clear hc hx hr1
          go_wp2_with fail
          refine (within_any x _).mono ?_
          rintro e w1 ⟨rfl, rfl⟩
          cases hin : inB x
          · have FI : RightPost .u16 w (rightN s l) (.returned (.int .u16 24)) wr := by
              refine ⟨?_, H.out.1.trans (HI.out.2.mono H.out.1.size)⟩
              rw [HS.out, HI.out.1, supBad_step HX.out, hin]
              rfl
            have FI := Lib.hid FI
            go_wp2
            go_ret
            exact FI.out
          · have hx1 : -4398046511104 ≤ x ∧ x ≤ 4398046511104 := by simpa [inB] using hin
            obtain ⟨hx2, hx3⟩ := hx1
            go_wp2_with fail
            go_roundw
            case rel =>
              refine ⟨j + 1, sum + x, by go_num, rfl, hjl, ?_, by omega, by omega, HI.out.2⟩
              rw [HI.out.1, supBad_step HX.out, hin]
              rfl
            case measure => simp [intOf]; omega
        · obtain rfl : j = n := by omega
          clear hr1
          have h1 := HI.out.1
          have hsn := Hn.out
          rw [List.drop_of_length_le (by omega)] at h1
          by_cases h0 : sum = 0
          · subst h0
            have FI : RightPost .u16 w (rightN s l) (.returned (.int .u16 0)) wr := by
              refine ⟨?_, H.out.1.trans (HI.out.2.mono H.out.1.size)⟩
              rw [HS.out, h1]
              rfl
            have FI := Lib.hid FI
            clear h1 hsn hlm
            go_wp2
            go_ret
            exact FI.out
          · have h01 : (sum == 0) = false := by simp [h0]
            have FI : RightPost .u16 w (rightN s l) (.returned (.int .u16 25)) wr := by
              refine ⟨?_, H.out.1.trans (HI.out.2.mono H.out.1.size)⟩
              rw [HS.out, h1]
              simp [supBad, h0]
            have FI := Lib.hid FI
            clear h1 hsn hlm
            go_wp2
            go_ret
            exact FI.out
end Go.Proofs.Yteepfhdndhepmaa
