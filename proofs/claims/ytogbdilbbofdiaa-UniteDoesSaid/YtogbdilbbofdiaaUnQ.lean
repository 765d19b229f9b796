/-
  unite: UniteDoes.
-/
import Derived.Test.YtogbdilbbofdiaaUnO
namespace Go.Proofs.Ytogbdilbbofdiaa
open Go.RowKit

theorem prow_ints (prs : List (Int × Int)) : prs.map prow = (prs.map fun p => [p.1, p.2]).map intl := by
  rw [List.map_map]
  rfl

set_option maxHeartbeats 1600000 in
theorem udoes_yes (n : Int) (v : Value) (rows : List (List Int)) (A : Option Addr) (len cap : Nat) (bs : List Nat) (b : Nat) (w : World) (hl : LL w (fun _ => True) v (rows.map intl)) (hn : rows.length ≤ maxLen)
    (hr : Rd w (fun _ => True) 1 A len (bytl bs)) (hb : ∀ b ∈ bs, b < 256) (hlen : len ≤ maxLen) (hb8 : b < 256) :
    Calls Try.prog 5 #[.int .i64 n, v, .slice A len cap, .int .u8 (b : Int)] w fun e w' => e = .returned (.bool true) ∧ Below w.heap.size w w' := by
  obtain ⟨Av, cv, rfl⟩ := hl.form
  rw [List.length_map] at hl ⊢
  unfold maxLen at hn
  have H := Lib.hid (And.intro hl (And.intro hr (And.intro hb hlen)))
  clear hl hr hb hlen
  by_cases h30 : rows.length > 30
  · have t1 : decide ((rows.length : Int) > 30) = true := by simp; omega
    go_enter Try.func5, Try.ntmps5
    go_wp2_with fail
    refine (known_yes _).mono ?_
    rintro e w1 ⟨rfl, hb1⟩
    have H1 := Lib.hid hb1
    clear hb1
    go_wp2_with fail
    go_ret
    exact ⟨rfl, H1.out⟩
  · go_enter Try.func5, Try.ntmps5
    go_wp2_with fail
    refine (known_yes _).mono ?_
    rintro e w1 ⟨rfl, hb1⟩
    have H1 := Lib.hid hb1
    clear hb1
    go_wp2_with fail
    go_loopw [9] (fun u wr => ∃ k : Nat, k ≤ rows.length ∧ u = .int .i64 k ∧ w1 = wr)
      (fun u _ => rows.length - (intOf u).toNat)
    case atStart => exact ⟨0, Nat.zero_le _, rfl, rfl⟩
    case round =>
      obtain ⟨k, hkn, rfl, rfl⟩ := hrel
      by_cases hlt : k < rows.length
      · obtain ⟨B, O, Ai, ci, ri, rfl, hri, hcell, hrd⟩ := (H.out.1.below H1.out).row (by simp) hlt
        obtain ⟨r, hrr, rfl⟩ := intl_rows_at hri
        rw [intl_len] at hcell hrd
        clear hrd hri
        generalize hrl : r.length = rl at *
        by_cases h2 : rl > 20
        · go_wp2_with fail
          refine (known_yes _).mono ?_
          rintro e w2 ⟨rfl, hb2⟩
          have H2 := Lib.hid (below_step H1.out hb2 H1.out.size)
          clear hb2
          go_wp2_with fail
          go_ret
          exact ⟨rfl, H2.out⟩
        · go_wp2_with fail
          go_roundw
          case rel => exact ⟨k + 1, hlt, by go_num, trivial⟩
          case measure => simp [intOf]; omega
      · by_cases h200 : n > 200
        · go_wp2_with fail
          refine (pairs_any A len cap bs _ (H.out.2.1.below H1.out) H.out.2.2.1 H.out.2.2.2).mono ?_
          rintro e w2 ⟨v2, prs, rfl, hl2, hp2, hb2⟩
          have H2 := Lib.hid (below_step H1.out hb2 H1.out.size)
          rw [prow_ints] at hl2
          have HL := Lib.hid hl2
          clear hb2 hl2
          go_wp2_with fail
          refine (does_yes _ v2 _ _ (HL.out.mono fun _ _ _ => trivial) (by simp; omega)).mono ?_
          rintro e w3 ⟨rfl, hb3⟩
          have H3 := Lib.hid (below_step H2.out hb3 H2.out.size)
          clear hb3
          go_wp2_with fail
          go_ret
          exact ⟨rfl, H3.out⟩
        · go_wp2_with fail
          refine (does_yes _ _ rows _ (H.out.1.below H1.out) (by omega)).mono ?_
          rintro e w4 ⟨rfl, hb4⟩
          have H4 := Lib.hid (below_step H1.out hb4 H1.out.size)
          clear hb4
          go_wp2_with fail
          refine (pairs_any A len cap bs _ (H.out.2.1.below H4.out) H.out.2.2.1 H.out.2.2.2).mono ?_
          rintro e w2 ⟨v2, prs, rfl, hl2, hp2, hb2⟩
          have H2 := Lib.hid (below_step H4.out hb2 H4.out.size)
          rw [prow_ints] at hl2
          have HL := Lib.hid hl2
          clear hb2 hl2
          go_wp2_with fail
          refine (does_yes _ v2 _ _ (HL.out.mono fun _ _ _ => trivial) (by simp; omega)).mono ?_
          rintro e w3 ⟨rfl, hb3⟩
          have H3 := Lib.hid (below_step H2.out hb3 H2.out.size)
          clear hb3
          go_wp2_with fail
          go_ret
          exact ⟨rfl, H3.out⟩
end Go.Proofs.Ytogbdilbbofdiaa
