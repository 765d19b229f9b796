/-
  UniteOrder: the walk. In whatever order pairs are put together, and whichever way round, the groups are the same.
-/
import Derived.Test.YtogbdilbbofdiaaUnF
import Derived.Test.YtogbdilbbofdiaaUnG
import Derived.StillTailTactics
namespace Go.Proofs.Ytogbdilbbofdiaa
open Go.RowKit

theorem LL.row0 {w : World} {S : Nat → Prop} {A : Option Addr} {n c : Nat} {prs : List (Int × Int)} (h : LL w S (.slice A n c) (prs.map prow)) (hn : prs.length = n) {i : Nat} (hi : i < n) :
    ∃ B O B' O' c', ∃ p : Int × Int, A = some ⟨B, O, none⟩ ∧ prs[i]? = some p ∧ w.cell? ⟨B, O + i, none⟩ = some (.slice (some ⟨B', O', none⟩) 2 c') ∧ w.cell? ⟨B', O', none⟩ = some (.int .i64 p.1) ∧ w.cell? ⟨B', O' + 1, none⟩ = some (.int .i64 p.2) := by
  obtain ⟨B, O, A', c', r, rfl, hr, hc, hd⟩ := h.row (by rw [List.length_map, hn]) hi
  obtain ⟨p, hp⟩ : ∃ p, prs[i]? = some p := ⟨_, List.getElem?_eq_getElem (by omega)⟩
  rw [List.getElem?_map, hp] at hr
  obtain rfl := Option.some.inj hr
  obtain ⟨B', O', rfl, _, hcell⟩ := hd.addr (by simp [prow])
  exact ⟨B, O, B', O', c', p, rfl, hp, hc, hcell 0 _ rfl, hcell 1 _ rfl⟩

/-- Two Sets, each in memory of its own, beside a list of pairs. -/
structure Two (B : Nat) (w wr : World) (S : Nat → Prop) (h z : At) (M : Nat) (vl : Value) (prs : List (Int × Int)) (L K : List Nat) : Prop where
  s : SetsAt wr h L
  t : SetsAt wr z K
  l : LL wr S vl (prs.map prow)
  hf : h.from B
  tf : z.from M
  hM : ∀ k, h.own k → k < M
  sB : ∀ k, S k → k < B
  BM : B ≤ M
  wB : w.heap.size ≤ B
  bl : Below w.heap.size w wr
theorem At.from_own {h : At} {B k : Nat} (hf : h.from B) (ho : h.own k) : B ≤ k := by
  obtain ⟨h1, h2, h3, h4⟩ := hf
  rcases ho with rfl | rfl | rfl | rfl <;> assumption
theorem Two.step_s {B M : Nat} {w wr w' : World} {S : Nat → Prop} {h t : At} {vl : Value} {prs : List (Int × Int)} {L L' K : List Nat} (x : Two B w wr S h t M vl prs L K) (hs : SetsAt w' h L') (hf : Fr h.own wr w') : Two B w w' S h t M vl prs L' K :=
  ⟨hs, x.t.fr hf fun k _ hk ho => by have := x.hM k ho; have := At.from_own x.tf hk; omega, x.l.fr hf fun k _ hk ho => by have := x.sB k hk; have := At.from_own x.hf ho; omega, x.hf, x.tf, x.hM, x.sB, x.BM, x.wB,
    x.bl.trans (hf.own_below (B := w.heap.size) ⟨Nat.le_trans x.wB x.hf.1, Nat.le_trans x.wB x.hf.2.1, Nat.le_trans x.wB x.hf.2.2.1, Nat.le_trans x.wB x.hf.2.2.2⟩ x.bl.size)⟩
theorem Two.step_t {B M : Nat} {w wr w' : World} {S : Nat → Prop} {h t : At} {vl : Value} {prs : List (Int × Int)} {L K K' : List Nat} (x : Two B w wr S h t M vl prs L K) (hs : SetsAt w' t K') (hf : Fr t.own wr w') : Two B w w' S h t M vl prs L K' :=
  ⟨x.s.fr hf fun k _ hk ho => by have := x.hM k hk; have := At.from_own x.tf ho; omega, hs, x.l.fr hf fun k _ hk ho => by have := x.sB k hk; have := At.from_own x.tf ho; have := x.BM; omega, x.hf, x.tf, x.hM, x.sB, x.BM, x.wB,
    x.bl.trans (hf.own_below (B := w.heap.size) ⟨by have := x.tf.1; have := x.BM; have := x.wB; omega, by have := x.tf.2.1; have := x.BM; have := x.wB; omega, by have := x.tf.2.2.1; have := x.BM; have := x.wB; omega, by have := x.tf.2.2.2; have := x.BM; have := x.wB; omega⟩ x.bl.size)⟩
theorem Two.below {B M : Nat} {w wr w' : World} {S : Nat → Prop} {h t : At} {vl : Value} {prs : List (Int × Int)} {L K : List Nat} (x : Two B w wr S h t M vl prs L K) (hb : Below wr.heap.size wr w') : Two B w w' S h t M vl prs L K :=
  ⟨x.s.below hb, x.t.below hb, x.l.below hb, x.hf, x.tf, x.hM, x.sB, x.BM, x.wB, below_step x.bl hb x.bl.size⟩

def swap (p : Int × Int) : Int × Int := (p.2, p.1)

set_option maxRecDepth 100000 in
set_option maxHeartbeats 3200000 in
theorem order_yes (A : Option Addr) (n c : Nat) (bs : List Nat) (b : Nat) (w : World) (hr : Rd w (fun _ => True) 1 A n (bytl bs)) (hb : ∀ b ∈ bs, b < 256) (hn : n ≤ maxLen) (hb8 : b < 256) :
    Calls Try.prog 3 #[.slice A n c, .int .u8 (b : Int)] w fun e w' => e = .returned (.bool true) ∧ Below w.heap.size w w' := by
  go_enter Try.func3, Try.ntmps3
  go_wp2_with fail
  refine (pairs_any A n c bs w hr hb hn).mono ?_
  rintro e w1 ⟨v, prs, rfl, hl1, hp30, hb1⟩
  have H1 := Lib.hid (And.intro hl1 hb1)
  clear hl1 hb1 hr
  generalize hm : b % 19 = m
  have hm19 : m < 19 := by omega
  go_wp2_with fail
  refine (new_any _ m _ (by omega) (by omega)).mono ?_
  rintro e w2 ⟨h, rfl, hs2, hfrom2, hb2⟩
  have H2 := Lib.hid (And.intro hs2 (And.intro hfrom2 hb2))
  clear hs2 hfrom2 hb2
  go_wp2_with fail
  refine (new_any _ m _ (by omega) (by omega)).mono ?_
  rintro e w3 ⟨t, rfl, hs3, hfrom3, hb3⟩
  have hTwo : Two w1.heap.size w w3 (fun k => w.heap.size ≤ k ∧ k < w1.heap.size) h t w2.heap.size v prs (List.range m) (List.range m) :=
    ⟨H2.out.1.below hb3, hs3, (H1.out.1.below H2.out.2.2).below hb3, H2.out.2.1, hfrom3, fun k hk => H2.out.1.own_lt hk, fun k hk => hk.2, H2.out.2.2.size, H1.out.2.size, below_step (below_step H1.out.2 H2.out.2.2 H1.out.2.size) hb3 (Nat.le_trans H1.out.2.size H2.out.2.2.size)⟩
  have HT := Lib.hid hTwo
  obtain ⟨Al, cl, rfl⟩ : ∃ A c, v = .slice A prs.length c := by
    obtain ⟨A, c, e⟩ := H1.out.1.form
    rw [List.length_map] at e
    exact ⟨A, c, e⟩
  have Hm := Lib.hid hm
  clear hs3 hfrom3 hb3 hTwo hm
  generalize hl : prs.length = len at *
  have Hl := Lib.hid hl
  clear hl
  generalize w1.heap.size = B at *
  generalize w2.heap.size = M at *
  go_wp2_with fail
  go_loopw [8] (fun u wr => ∃ k : Nat, u = .int .i64 k ∧ k ≤ len ∧ Two B w wr (fun k => w.heap.size ≤ k ∧ k < B) h t M (.slice Al len cl) prs (joins (List.range m) (prs.take k)) (List.range m))
    (fun u _ => len - (intOf u).toNat)
  case atStart => exact ⟨0, rfl, Nat.zero_le _, HT.out⟩
  case round =>
    obtain ⟨k, rfl, hk, hT⟩ := hrel
    by_cases hlt : k < len
    · obtain ⟨rB, rO, rB', rO', rc, p, rfl, hp, hc0, hc1, hc2⟩ := hT.l.row0 Hl.out hlt
      have HH := Lib.hid (And.intro hT hp)
      have i1 : (0 : Int) ≤ (k : Int) := by omega
      have i2 : (k : Int) < (len : Int) := by omega
      clear hT hp
      go_wp2_with fail
      go_still_tail 13, (by kernel_rfl)
      go_wp2_with fail
      refine (join_any p.1 p.2 _ (HH.out.1.s.drewN 1)).mono ?_
      rintro e w4 ⟨rfl, hs4, hf4⟩
      have hT4 := HH.out.1.step_s hs4 hf4.undrew
      rw [← joins_snoc] at hT4
      have HT4 := Lib.hid hT4
      clear hs4 hf4 hT4
      go_wp2
      go_roundw
      case rel =>
        refine ⟨k + 1, by go_num, hlt, ?_⟩
        have e : prs.take (k + 1) = prs.take k ++ [p] := by rw [List.take_add_one, HH.out.2]; rfl
        rw [e]
        exact HT4.out
      case measure => simp [intOf]; omega
    · have HH := Lib.hid hT
      clear hT
      obtain rfl : k = len := by omega
      go_wp2_with fail
      go_loopw [9] (fun u wr2 => ∃ r : Nat, u = .int .i64 ((r : Int) - 1) ∧ r ≤ k ∧ Two B w wr2 (fun k => w.heap.size ≤ k ∧ k < B) h t M (.slice Al k cl) prs (joins (List.range m) prs) (joins (List.range m) ((prs.drop r).reverse.map swap)))
        (fun u _ => (intOf u + 1).toNat)
      case atStart =>
        refine ⟨k, rfl, Nat.le_refl _, ?_⟩
        have h1 := HH.out
        have hl := Hl.out
        rw [List.take_of_length_le (by omega)] at h1
        rw [List.drop_of_length_le (by omega)]
        exact h1
      case round =>
        obtain ⟨r, rfl, hr, hT⟩ := hrel
        by_cases hlt : 0 < r
        · obtain ⟨q, rfl⟩ : ∃ q, r = q + 1 := ⟨r - 1, by omega⟩
          have eq_ : ((q + 1 : Nat) : Int) - 1 = q := by omega
          rw [eq_]
          clear eq_
          obtain ⟨rB, rO, rB', rO', rc, p, rfl, hp, hc0, hc1, hc2⟩ := hT.l.row0 Hl.out (i := q) (by omega)
          have HJ := Lib.hid (And.intro hT hp)
          have i1 : (0 : Int) ≤ (q : Int) := by omega
          have i2 : (q : Int) < (k : Int) := by omega
          clear hT hp
          go_wp2_with fail
          go_still_tail 13, (by kernel_rfl)
          go_wp2_with fail
          refine (join_any p.2 p.1 _ (HJ.out.1.t.drewN 1)).mono ?_
          rintro e w4 ⟨rfl, hs4, hf4⟩
          have hT4 := HJ.out.1.step_t hs4 hf4.undrew
          rw [show joinL (joins (List.range m) ((prs.drop (q + 1)).reverse.map swap)) p.2 p.1 = joins (List.range m) ((prs.drop (q + 1)).reverse.map swap ++ [swap p]) from (joins_snoc _ _ (swap p)).symm] at hT4
          have HT4 := Lib.hid hT4
          clear hs4 hf4 hT4
          go_wp2
          go_roundw
          case rel =>
            refine ⟨q, rfl, by omega, ?_⟩
            have e : prs.drop q = p :: prs.drop (q + 1) := by
              have h1 := (List.getElem?_eq_some_iff.1 HJ.out.2)
              rw [List.drop_eq_getElem_cons h1.1, h1.2]
            rw [e, List.reverse_cons, List.map_append]
            exact HT4.out
          case measure => simp [intOf]
        · obtain rfl : r = 0 := by omega
          have eqL : joins (List.range m) ((prs.drop 0).reverse.map swap) = joins (List.range m) prs := by
            rw [List.drop_zero]
            apply joins_any
            · intro p hp
              simp only [List.mem_map, List.mem_reverse] at hp
              obtain ⟨p', hp', rfl⟩ := hp
              exact .inr hp'
            · intro p hp
              refine .inr ?_
              simp only [List.mem_map, List.mem_reverse]
              exact ⟨p, hp, rfl⟩
          rw [eqL] at hT
          have HJ := Lib.hid hT
          clear hT eqL
          go_wp2_with fail
          refine (known_yes _).mono ?_
          rintro e w5 ⟨rfl, hb5⟩
          have H5 := Lib.hid (HJ.out.below hb5)
          clear hb5
          go_wp2_with fail
          refine (groups_int _ H5.out.s).mono ?_
          rintro e w6 ⟨vs, rfl, hl6, hs6, hf6⟩
          have H6 := Lib.hid (And.intro (H5.out.step_s hs6 hf6) hl6)
          have hM6 : ∀ q, t.own q → q < w5.heap.size := fun q hq => H5.out.t.own_lt hq
          have HM6 := Lib.hid hM6
          clear hl6 hs6 hf6 hM6
          go_wp2_with fail
          refine (groups_int _ H6.out.1.t).mono ?_
          rintro e w7 ⟨vt, rfl, hl7, hs7, hf7⟩
          have H7 := Lib.hid (And.intro (H6.out.1.step_t hs7 hf7) (And.intro hl7 (H6.out.2.fr hf7 fun q _ hq ho => by have := HM6.out q ho; omega)))
          have hsmall : (groupsI (joins (List.range m) prs)).length ≤ 100000 := Nat.le_trans (groupsI_len _) (by rw [joins_len, List.length_range]; omega)
          have hsmall2 : ∀ r ∈ groupsI (joins (List.range m) prs), r.length ≤ 100000 := fun r hr => Nat.le_trans (groupsI_row _ r hr) (by rw [joins_len, List.length_range]; omega)
          have HS := Lib.hid (And.intro hsmall hsmall2)
          clear hl7 hs7 hf7 hsmall hsmall2
          go_wp2_with fail
          refine (lists_at vs vt _ _ true _ (by simp) H7.out.2.2 H7.out.2.1 HS.out.1 HS.out.1 HS.out.2 HS.out.2).mono ?_
          rintro e w8 ⟨rfl, hb8⟩
          have H8 := Lib.hid (H7.out.1.below hb8)
          clear hb8
          go_wp2_with fail
          refine (many_any _ H8.out.s).mono ?_
          rintro e w9 ⟨rfl, rfl⟩
          go_wp2_with fail
          refine (many_any _ H8.out.t).mono ?_
          rintro e w9 ⟨rfl, rfl⟩
          go_wp2_with fail
          go_ret
          exact ⟨ret_bool (by simp), H8.out.bl⟩
end Go.Proofs.Ytogbdilbbofdiaa
