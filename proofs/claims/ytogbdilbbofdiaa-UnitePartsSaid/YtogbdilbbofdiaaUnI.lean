/-
  UniteNone: the walk. Without sets there are no numbers; numbers beyond are of no group.
-/
import Derived.Test.YtogbdilbbofdiaaUnF
namespace Go.Proofs.Ytogbdilbbofdiaa
open Go.RowKit

theorem same_at {h : At} {L : List Nat} {r : Bool} (a b : Int) (w : World) (hs : SetsAt w h L) (hr : sameB L a b = r) :
    Calls Try.prog 17 #[.pointer (some ⟨h.p, 0, none⟩), .int .i64 a, .int .i64 b] w fun e w' => e = .returned (.bool r) ∧ SetsAt w' h L ∧ Fr h.own w w' := by
  subst hr
  exact same_any a b w hs
theorem roots_range (n : Nat) : roots (List.range n) = n := by
  unfold roots
  rw [List.length_range]
  have : (List.range n).countP (fun i => (List.range n)[i]? == some i) = (List.range n).length := by
    rw [List.countP_eq_length]
    intro a ha
    rw [range_get (by simpa using ha)]
    simp
  rw [this, List.length_range]

set_option maxRecDepth 100000 in
set_option maxHeartbeats 3200000 in
theorem none_in (a b : Int) (n : Nat) (w : World) (hn : n < 256) (ha : -9223372036854775808 ≤ a ∧ a ≤ 9223372036854775807) (i1 : 0 ≤ a) (i2 : a < n) (h1 : sameB (List.range n) a a = true) (h2 : leastI (List.range n) a = a) :
    Calls Try.prog 7 #[.int .i64 a, .int .i64 b, .int .u8 (n : Int)] w fun e w' => e = .returned (.bool true) ∧ Below w.heap.size w w' := by
  have HS := Lib.hid (And.intro h1 h2)
  clear h1 h2
  go_enter Try.func7, Try.ntmps7
  go_wp2_with fail
  refine (new_any _ n _ (by omega) (by omega)).mono ?_
  rintro e w1 ⟨t, rfl, hs1, hfrom, hb1⟩
  have H1 := Lib.hid (And.intro hs1 (And.intro hfrom hb1))
  clear hs1 hfrom hb1
  go_wp2_with fail
  refine (known_yes _).mono ?_
  rintro e w2 ⟨rfl, hb2⟩
  have H2 := Lib.hid (And.intro (H1.out.1.below hb2) (below_step H1.out.2.2 hb2 H1.out.2.2.size))
  clear hb2
  go_wp2_with fail
  refine (join_nil a b _).mono ?_
  rintro e w3 ⟨rfl, rfl⟩
  go_wp2_with fail
  refine (same_nil a a _).mono ?_
  rintro e w3 ⟨rfl, rfl⟩
  go_wp2_with fail
  refine (least_nil a _).mono ?_
  rintro e w3 ⟨rfl, rfl⟩
  go_wp2_with fail
  refine (many_nil _).mono ?_
  rintro e w3 ⟨rfl, rfl⟩
  go_wp2_with fail
  refine (groups_nil _).mono ?_
  rintro e w3 ⟨rfl, rfl⟩
  go_wp2_with fail
  refine (same_at a a _ H2.out.1 HS.out.1).mono ?_
  rintro e w3 ⟨rfl, hs3, hf3⟩
  have H3 := Lib.hid (And.intro hs3 (H2.out.2.trans (hf3.own_below H1.out.2.1 H2.out.2.size)))
  clear hs3 hf3
  go_wp2_with fail
  refine (least_at a _ H3.out.1 HS.out.2).mono ?_
  rintro e w4 ⟨rfl, hs4, hf4⟩
  have H4 := Lib.hid (And.intro hs4 (H3.out.2.trans (hf4.own_below H1.out.2.1 H3.out.2.size)))
  clear hs4 hf4
  go_wp2_with fail
  refine (many_at _ H4.out.1 (r := (n : Int)) (by rw [roots_range])).mono ?_
  rintro e w5 ⟨rfl, rfl⟩
  go_wp2_with fail
  refine (new_any _ 0 _ (by omega) (by omega)).mono ?_
  rintro e w6 ⟨t2, rfl, hs6, hfrom6, hb6⟩
  have H6 := Lib.hid (And.intro hs6 (below_step H4.out.2 hb6 H4.out.2.size))
  clear hs6 hfrom6 hb6
  go_wp2_with fail
  refine (many_at _ H6.out.1 (r := 0) (by decide)).mono ?_
  rintro e w7 ⟨rfl, rfl⟩
  go_wp2_with fail
  go_ret
  exact ⟨rfl, H6.out.2⟩
set_option maxRecDepth 100000 in
set_option maxHeartbeats 3200000 in
theorem none_one (b : Int) (n : Nat) (w : World) (hn : n < 256) (h1 : sameB (List.range n) (-1) (-1) = false) (h2 : leastI (List.range n) (-1) = (-1)) :
    Calls Try.prog 7 #[.int .i64 (-1), .int .i64 b, .int .u8 (n : Int)] w fun e w' => e = .returned (.bool true) ∧ Below w.heap.size w w' := by
  have HS := Lib.hid (And.intro h1 h2)
  clear h1 h2
  go_enter Try.func7, Try.ntmps7
  go_wp2_with fail
  refine (new_any _ n _ (by omega) (by omega)).mono ?_
  rintro e w1 ⟨t, rfl, hs1, hfrom, hb1⟩
  have H1 := Lib.hid (And.intro hs1 (And.intro hfrom hb1))
  clear hs1 hfrom hb1
  go_wp2_with fail
  refine (known_yes _).mono ?_
  rintro e w2 ⟨rfl, hb2⟩
  have H2 := Lib.hid (And.intro (H1.out.1.below hb2) (below_step H1.out.2.2 hb2 H1.out.2.2.size))
  clear hb2
  go_wp2_with fail
  refine (join_nil (-1) b _).mono ?_
  rintro e w3 ⟨rfl, rfl⟩
  go_wp2_with fail
  refine (same_nil (-1) (-1) _).mono ?_
  rintro e w3 ⟨rfl, rfl⟩
  go_wp2_with fail
  refine (least_nil (-1) _).mono ?_
  rintro e w3 ⟨rfl, rfl⟩
  go_wp2_with fail
  refine (many_nil _).mono ?_
  rintro e w3 ⟨rfl, rfl⟩
  go_wp2_with fail
  refine (groups_nil _).mono ?_
  rintro e w3 ⟨rfl, rfl⟩
  go_wp2_with fail
  refine (same_at (-1) (-1) _ H2.out.1 HS.out.1).mono ?_
  rintro e w3 ⟨rfl, hs3, hf3⟩
  have H3 := Lib.hid (And.intro hs3 (H2.out.2.trans (hf3.own_below H1.out.2.1 H2.out.2.size)))
  clear hs3 hf3
  go_wp2_with fail
  refine (least_at (-1) _ H3.out.1 HS.out.2).mono ?_
  rintro e w4 ⟨rfl, hs4, hf4⟩
  have H4 := Lib.hid (And.intro hs4 (H3.out.2.trans (hf4.own_below H1.out.2.1 H3.out.2.size)))
  clear hs4 hf4
  go_wp2_with fail
  refine (many_at _ H4.out.1 (r := (n : Int)) (by rw [roots_range])).mono ?_
  rintro e w5 ⟨rfl, rfl⟩
  go_wp2_with fail
  refine (new_any _ 0 _ (by omega) (by omega)).mono ?_
  rintro e w6 ⟨t2, rfl, hs6, hfrom6, hb6⟩
  have H6 := Lib.hid (And.intro hs6 (below_step H4.out.2 hb6 H4.out.2.size))
  clear hs6 hfrom6 hb6
  go_wp2_with fail
  refine (many_at _ H6.out.1 (r := 0) (by decide)).mono ?_
  rintro e w7 ⟨rfl, rfl⟩
  go_wp2_with fail
  go_ret
  exact ⟨rfl, H6.out.2⟩
set_option maxRecDepth 100000 in
set_option maxHeartbeats 3200000 in
theorem none_low (a b : Int) (n : Nat) (w : World) (hn : n < 256) (ha : -9223372036854775808 ≤ a ∧ a ≤ 9223372036854775807) (i1 : a < -1) (h1 : sameB (List.range n) a a = false) (h2 : leastI (List.range n) a = (-1)) :
    Calls Try.prog 7 #[.int .i64 a, .int .i64 b, .int .u8 (n : Int)] w fun e w' => e = .returned (.bool true) ∧ Below w.heap.size w w' := by
  have e1 : ((-1 : Int) == a) = false := by simp; omega
  have e2 : (a == (-1 : Int)) = false := by simp; omega
  have i2 : ¬ 0 ≤ a := by omega
  have HS := Lib.hid (And.intro h1 h2)
  clear h1 h2
  go_enter Try.func7, Try.ntmps7
  go_wp2_with fail
  refine (new_any _ n _ (by omega) (by omega)).mono ?_
  rintro e w1 ⟨t, rfl, hs1, hfrom, hb1⟩
  have H1 := Lib.hid (And.intro hs1 (And.intro hfrom hb1))
  clear hs1 hfrom hb1
  go_wp2_with fail
  refine (known_yes _).mono ?_
  rintro e w2 ⟨rfl, hb2⟩
  have H2 := Lib.hid (And.intro (H1.out.1.below hb2) (below_step H1.out.2.2 hb2 H1.out.2.2.size))
  clear hb2
  go_wp2_with fail
  refine (join_nil a b _).mono ?_
  rintro e w3 ⟨rfl, rfl⟩
  go_wp2_with fail
  refine (same_nil a a _).mono ?_
  rintro e w3 ⟨rfl, rfl⟩
  go_wp2_with fail
  refine (least_nil a _).mono ?_
  rintro e w3 ⟨rfl, rfl⟩
  go_wp2_with fail
  refine (many_nil _).mono ?_
  rintro e w3 ⟨rfl, rfl⟩
  go_wp2_with fail
  refine (groups_nil _).mono ?_
  rintro e w3 ⟨rfl, rfl⟩
  go_wp2_with fail
  refine (same_at a a _ H2.out.1 HS.out.1).mono ?_
  rintro e w3 ⟨rfl, hs3, hf3⟩
  have H3 := Lib.hid (And.intro hs3 (H2.out.2.trans (hf3.own_below H1.out.2.1 H2.out.2.size)))
  clear hs3 hf3
  go_wp2_with fail
  refine (least_at a _ H3.out.1 HS.out.2).mono ?_
  rintro e w4 ⟨rfl, hs4, hf4⟩
  have H4 := Lib.hid (And.intro hs4 (H3.out.2.trans (hf4.own_below H1.out.2.1 H3.out.2.size)))
  clear hs4 hf4
  go_wp2_with fail
  refine (many_at _ H4.out.1 (r := (n : Int)) (by rw [roots_range])).mono ?_
  rintro e w5 ⟨rfl, rfl⟩
  go_wp2_with fail
  refine (new_any _ 0 _ (by omega) (by omega)).mono ?_
  rintro e w6 ⟨t2, rfl, hs6, hfrom6, hb6⟩
  have H6 := Lib.hid (And.intro hs6 (below_step H4.out.2 hb6 H4.out.2.size))
  clear hs6 hfrom6 hb6
  go_wp2_with fail
  refine (many_at _ H6.out.1 (r := 0) (by decide)).mono ?_
  rintro e w7 ⟨rfl, rfl⟩
  go_wp2_with fail
  go_ret
  exact ⟨rfl, H6.out.2⟩
set_option maxRecDepth 100000 in
set_option maxHeartbeats 3200000 in
theorem none_high (a b : Int) (n : Nat) (w : World) (hn : n < 256) (ha : -9223372036854775808 ≤ a ∧ a ≤ 9223372036854775807) (i1 : 0 ≤ a) (i2 : ¬ a < n) (h1 : sameB (List.range n) a a = false) (h2 : leastI (List.range n) a = (-1)) :
    Calls Try.prog 7 #[.int .i64 a, .int .i64 b, .int .u8 (n : Int)] w fun e w' => e = .returned (.bool true) ∧ Below w.heap.size w w' := by
  have e1 : ((-1 : Int) == a) = false := by simp; omega
  have e2 : (a == (-1 : Int)) = false := by simp; omega
  have e3 : decide (a < (n : Int)) = false := by simp; omega
  have HS := Lib.hid (And.intro h1 h2)
  clear h1 h2
  go_enter Try.func7, Try.ntmps7
  go_wp2_with fail
  refine (new_any _ n _ (by omega) (by omega)).mono ?_
  rintro e w1 ⟨t, rfl, hs1, hfrom, hb1⟩
  have H1 := Lib.hid (And.intro hs1 (And.intro hfrom hb1))
  clear hs1 hfrom hb1
  go_wp2_with fail
  refine (known_yes _).mono ?_
  rintro e w2 ⟨rfl, hb2⟩
  have H2 := Lib.hid (And.intro (H1.out.1.below hb2) (below_step H1.out.2.2 hb2 H1.out.2.2.size))
  clear hb2
  go_wp2_with fail
  refine (join_nil a b _).mono ?_
  rintro e w3 ⟨rfl, rfl⟩
  go_wp2_with fail
  refine (same_nil a a _).mono ?_
  rintro e w3 ⟨rfl, rfl⟩
  go_wp2_with fail
  refine (least_nil a _).mono ?_
  rintro e w3 ⟨rfl, rfl⟩
  go_wp2_with fail
  refine (many_nil _).mono ?_
  rintro e w3 ⟨rfl, rfl⟩
  go_wp2_with fail
  refine (groups_nil _).mono ?_
  rintro e w3 ⟨rfl, rfl⟩
  go_wp2_with fail
  refine (same_at a a _ H2.out.1 HS.out.1).mono ?_
  rintro e w3 ⟨rfl, hs3, hf3⟩
  have H3 := Lib.hid (And.intro hs3 (H2.out.2.trans (hf3.own_below H1.out.2.1 H2.out.2.size)))
  clear hs3 hf3
  go_wp2_with fail
  refine (least_at a _ H3.out.1 HS.out.2).mono ?_
  rintro e w4 ⟨rfl, hs4, hf4⟩
  have H4 := Lib.hid (And.intro hs4 (H3.out.2.trans (hf4.own_below H1.out.2.1 H3.out.2.size)))
  clear hs4 hf4
  go_wp2_with fail
  refine (many_at _ H4.out.1 (r := (n : Int)) (by rw [roots_range])).mono ?_
  rintro e w5 ⟨rfl, rfl⟩
  go_wp2_with fail
  refine (new_any _ 0 _ (by omega) (by omega)).mono ?_
  rintro e w6 ⟨t2, rfl, hs6, hfrom6, hb6⟩
  have H6 := Lib.hid (And.intro hs6 (below_step H4.out.2 hb6 H4.out.2.size))
  clear hs6 hfrom6 hb6
  go_wp2_with fail
  refine (many_at _ H6.out.1 (r := 0) (by decide)).mono ?_
  rintro e w7 ⟨rfl, rfl⟩
  go_wp2_with fail
  go_ret
  exact ⟨rfl, H6.out.2⟩

theorem of_range {n : Nat} {a : Int} : of_ (List.range n) a = if 0 ≤ a ∧ a < n then some a.toNat else none := by
  unfold of_
  by_cases h0 : 0 ≤ a
  · by_cases h1 : a < n
    · rw [if_pos h0, if_pos ⟨h0, h1⟩, List.getElem?_range (by omega)]
    · rw [if_pos h0, if_neg (fun h => h1 h.2), List.getElem?_eq_none_iff]
      simp; omega
  · rw [if_neg h0, if_neg (fun h => h0 h.1)]

theorem none_yes (a b : Int) (n : Nat) (w : World) (hn : n < 256) (ha : -9223372036854775808 ≤ a ∧ a ≤ 9223372036854775807) :
    Calls Try.prog 7 #[.int .i64 a, .int .i64 b, .int .u8 (n : Int)] w fun e w' => e = .returned (.bool true) ∧ Below w.heap.size w w' := by
  by_cases h : 0 ≤ a ∧ a < n
  · exact none_in a b n w hn ha h.1 h.2 (by simp [sameB, of_range, h]) (by simp [leastI, of_range, h]; omega)
  · have h1 : sameB (List.range n) a a = false := by simp [sameB, of_range, h]
    have h2 : leastI (List.range n) a = -1 := by simp [leastI, of_range, h]
    by_cases e : a = -1
    · subst e
      exact none_one b n w hn h1 h2
    · by_cases h0 : 0 ≤ a
      · exact none_high a b n w hn ha h0 (fun h' => h ⟨h0, h'⟩) h1 h2
      · exact none_low a b n w hn ha (by omega) h1 h2
end Go.Proofs.Ytogbdilbbofdiaa
