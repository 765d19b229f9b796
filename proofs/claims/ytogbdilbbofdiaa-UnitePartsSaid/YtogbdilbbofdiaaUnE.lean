/-
  unite: Pairs, Lists.
-/
import Derived.Test.YtogbdilbbofdiaaMem
import Derived.Test.YtogbdilbbofdiaaUnT
import Derived.Test.YtogbdilbbofdiaaProg
import Derived.Deep.QuietTactic
import Derived.BigQuiet
import Derived.Deep.LoopGhost
import Derived.Deep.RegionWith
import Derived.Deep.RegionHeld3
import Derived.Deep.DeepCutAuto
import Derived.Deep.DrawnRows
namespace Go.Proofs.Ytogbdilbbofdiaa
open Go.RowKit


def prow (p : Int × Int) : List Value := [.int .i64 p.1, .int .i64 p.2]

theorem snoc_prow {w : World} {base : Nat} {eO eI : TypeId} {v : Value} {vs : List Value} {prs : List (Int × Int)} {x y : Int} (h : Rows2 w base eO eI v (prs.map prow ++ [#[Value.int .i64 x, .int .i64 y].toList]) vs) : Rows2 w base eO eI v ((prs ++ [(x, y)]).map prow) vs := by
  rw [List.map_append]
  exact h
def PairsPost (w : World) (e : Ending) (w' : World) : Prop := ∃ (v : Value) (prs : List (Int × Int)), e = .returned v ∧ LL w' (fun k => w.heap.size ≤ k ∧ k < w'.heap.size) v (prs.map prow) ∧ prs.length ≤ 30 ∧ Below w.heap.size w w'

set_option maxHeartbeats 1600000 in
theorem pairs_any (A : Option Addr) (n c : Nat) (bs : List Nat) (w : World) (hr : Rd w (fun _ => True) 1 A n (bytl bs)) (hb : ∀ b ∈ bs, b < 256) (hn : n ≤ maxLen) :
    Calls Try.prog 8 #[.slice A n c] w (PairsPost w) := by
  unfold maxLen at hn
  have hlen : bs.length = n := by have := hr.1; rw [bytl_len] at this; omega
  have HR := Lib.hid (And.intro hr (And.intro hb hlen))
  clear hr hb hlen
  obtain ⟨i0, hi0, hz0, hz1, hz2⟩ := info_parts int_info
  obtain ⟨j0, hj0, hy0, hy1, hy2⟩ := info_parts row_info
  go_enter Try.func8, Try.ntmps8
  go_wp2
  go_loopw [3, 4] (fun o u wr => ∃ (k : Nat) (prs : List (Int × Int)) (vs : List Value), u = .int .i64 (k : Int) ∧ k = 2 * prs.length ∧ k ≤ 60 ∧ Rows2 wr w.heap.size 28 3 o (prs.map prow) vs ∧ Below w.heap.size w wr)
    (fun _ u _ => 62 - (intOf u).toNat)
  case atStart => exact ⟨0, [], [], rfl, rfl, by omega, Rows2.nil _ _ _ _, Below.refl _ _⟩
  case round =>
    obtain ⟨k, prs, vs, rfl, hk, hk60, hrow, hbl⟩ := hrel
    have hA : ∃ A c, u3 = .slice A prs.length c := by
      obtain ⟨A, c, e⟩ := hrow.form
      exact ⟨A, c, by rw [e, List.length_map]⟩
    obtain ⟨A3, c3, rfl⟩ := hA
    have H := Lib.hid (And.intro hk (And.intro hrow hbl))
    have hs := hbl.size
    generalize hm : prs.length = m at *
    have Hm := Lib.hid hm
    clear hk hrow hbl hm
    by_cases hc : k + 1 < n ∧ k < 60
    · obtain ⟨hc1, hc2⟩ := hc
      obtain ⟨hr, hb, hlen⟩ := HR.out
      obtain ⟨aB, aO, rfl, _, hcell⟩ := hr.addr (by omega)
      obtain ⟨b1, hb1⟩ : ∃ b, bs[k]? = some b := ⟨_, List.getElem?_eq_getElem (by omega)⟩
      obtain ⟨b2, hb2⟩ : ∃ b, bs[k + 1]? = some b := ⟨_, List.getElem?_eq_getElem (by omega)⟩
      have hB : aB < w.heap.size := World.block_lt_of_cell? _ _ (hcell k _ (bytl_at hb1))
      have hm30 : m < 30 := by have := H.out.1; omega
      have l1 : b1 < 256 := hb b1 (List.mem_of_getElem? hb1)
      have l2 : b2 < 256 := hb b2 (List.mem_of_getElem? hb2)
      have c1 : wr.cell? ⟨aB, aO + k, none⟩ = some (.int .u8 (b1 : Int)) := by
        have h1 := hcell k _ (bytl_at hb1)
        rw [← h1]
        exact H.out.2.2.cell (World.block_lt_of_cell? _ _ h1)
      have c2 : wr.cell? ⟨aB, aO + (k + 1), none⟩ = some (.int .u8 (b2 : Int)) := by
        have h1 := hcell (k + 1) _ (bytl_at hb2)
        rw [← h1]
        exact H.out.2.2.cell (World.block_lt_of_cell? _ _ h1)
      clear hr hb hlen hcell hb1 hb2
      have w1 : IntKind.i64.wrap ((k : Int) + 1) = (k : Int) + 1 := IntWalk.i64_in _ (by omega)
      have i1 : (0 : Int) ≤ (k : Int) := by omega
      have i2 : (k : Int) < (n : Int) := by omega
      have i3 : (0 : Int) ≤ (k : Int) + 1 := by omega
      have i4 : (k : Int) + 1 < (n : Int) := by omega
      have i5 : ((k : Int) + 1).toNat = k + 1 := by omega
      have hown := H.out.2.1.1
      rw [List.length_map, Hm.out] at hown
      go_wp2_with fail
      go_region_held3 (fun w' => w'.cell? ⟨aB, aO + k, none⟩ = some (.int .u8 (b1 : Int)) ∧ w'.cell? ⟨aB, aO + (k + 1), none⟩ = some (.int .u8 (b2 : Int))) (go_keep)
        ((refine step_append_blk (by rfl) _ _ _ (by rfl) w.heap.size 28 j0 _ 24 Try.underlying23 hj0 hy0 hy1 hy2 rfl (.slice A3 m c3) m vs (by rfl) (by repeat' (first | exact hown | refine own_drew ?_ | refine World.ownsRow.alloc ?_ _)) (wr.heap.size + 1)
            (.slice (some ⟨wr.heap.size, 0, none⟩) 2 2) (by rfl) (by repeat' (first | (refine Blk.new_ ?_; simp; done) | refine Blk.drew ?_ | refine Blk.alloc ?_ _)) rfl (by unfold maxLen; omega) (by omega) (by simp; omega) ?_; intro g1 cap1 w2 own2 fr2 hat2 hlt2
          have F2 := ((((Fr.refl (fun k => w.heap.size ≤ k) wr).alloc _).alloc _).drew).trans (fr2.mono fun k _ e => (hown.lt k e).1)
          have hb2 : Below w.heap.size wr w2 := F2.below (fun k hk _ => by omega) (by omega)
          have k1 := (hb2.cell (p := ⟨aB, aO + k, none⟩) hB).trans c1
          have k2 := (hb2.cell (p := ⟨aB, aO + (k + 1), none⟩) hB).trans c2))
      go_wp2
      obtain ⟨hk, hrow, hbl⟩ := H.out
      have hlen := Hm.out
      have hml : (prs.map prow).length = m := by rw [List.length_map, hlen]
      go_roundw
      case rel =>
        rw [← hml] at own2
        have h9 := snoc_prow (hrow.lit (n := 2) (by decide) rfl (by unfold maxLen; omega) hs own2 fr2)
        rw [hml] at h9
        refine ⟨k + 2, _, _, by go_num, ?_, by omega, h9, hbl.trans hb2⟩
        simp only [List.length_append, List.length_cons, List.length_nil]
        omega
      case measure => simp [intOf]; omega
    · have Hc := Lib.hid hc
      clear hc
      have fin : PairsPost w (.returned (.slice A3 m c3)) wr := by
        obtain ⟨hk, hrow, hbl⟩ := H.out
        exact ⟨_, prs, rfl, hrow.read, by have := Hm.out; omega, hbl⟩
      have FIN := Lib.hid fin
      clear fin
      by_cases hc1 : k + 1 < n
      · have hc2 : ¬ k < 60 := fun h => Hc.out ⟨hc1, h⟩
        go_wp2
        go_ret
        exact FIN.out
      · go_wp2
        go_ret
        exact FIN.out

/-- Lists: are lists of lists the same? Over lists of one-cell ints. -/
def LLEqPost (w : World) (la lb : List (List Int)) (e : Ending) (w' : World) : Prop := e = .returned (.bool (decide (la = lb))) ∧ ∃ k, w' = w.drewN k

theorem LL.row {w : World} {S : Nat → Prop} {A : Option Addr} {n c : Nat} {rows : List (List Value)} (h : LL w S (.slice A n c) rows) (hn : rows.length = n) {i : Nat} (hi : i < n) :
    ∃ B O A' c' r, A = some ⟨B, O, none⟩ ∧ rows[i]? = some r ∧ w.cell? ⟨B, O + i, none⟩ = some (.slice A' r.length c') ∧ Rd w S 1 A' r.length r := by
  obtain ⟨A0, c0, vs, e, h1, h2⟩ := h
  injection e with e1 e2 e3
  subst e1
  obtain ⟨B, O, rfl, hS, hc⟩ := h1.addr (by omega)
  have hvl := h1.1
  obtain ⟨u, hu⟩ : ∃ u, vs[i]? = some u := ⟨_, List.getElem?_eq_getElem (by omega)⟩
  obtain ⟨r, hr⟩ : ∃ r, rows[i]? = some r := ⟨_, List.getElem?_eq_getElem (by omega)⟩
  obtain ⟨A', c', rfl, h3⟩ := h2 i u r hu hr
  exact ⟨B, O, A', c', r, rfl, hr, hc i _ hu, h3⟩
theorem LL.form {w : World} {S : Nat → Prop} {v : Value} {rows : List (List Value)} (h : LL w S v rows) : ∃ A c, v = .slice A rows.length c := by
  obtain ⟨A, c, vs, e, _⟩ := h
  exact ⟨A, c, e⟩

theorem intl_rows_at {l : List (List Int)} {i : Nat} {r : List Value} (h : (l.map intl)[i]? = some r) : ∃ x, l[i]? = some x ∧ r = intl x := by
  rw [List.getElem?_map] at h
  cases e : l[i]? with
  | none => rw [e] at h; cases h
  | some x => rw [e] at h; exact ⟨x, rfl, (Option.some.inj h).symm⟩

set_option maxHeartbeats 1600000 in
theorem lists_any {S T : Nat → Prop} (va vb : Value) (la lb : List (List Int)) (w : World) (ha : LL w S va (la.map intl)) (hb : LL w T vb (lb.map intl)) (h1 : la.length ≤ 100000) (h2 : lb.length ≤ 100000) (h3 : ∀ r ∈ la, r.length ≤ 100000) (h4 : ∀ r ∈ lb, r.length ≤ 100000) :
    Calls Try.prog 12 #[va, vb] w (LLEqPost w la lb) := by
  obtain ⟨A, c, rfl⟩ := ha.form
  obtain ⟨B, d, rfl⟩ := hb.form
  rw [List.length_map] at ha hb ⊢
  rw [List.length_map]
  by_cases hl : la.length = lb.length
  · have HA := Lib.hid (And.intro ha (And.intro hb (And.intro h3 h4)))
    clear ha hb h3 h4
    rw [hl] at HA h1 ⊢
    have HL := Lib.hid hl
    clear hl
    generalize hn : lb.length = n at *
    have Hn := Lib.hid hn
    clear hn
    go_enter Try.func12, Try.ntmps12
    go_wp2
    go_loopw [5] (fun u wr => ∃ i : Nat, i ≤ n ∧ u = .int .i64 i ∧ la.take i = lb.take i ∧ ∃ k, wr = w.drewN k) (fun u _ => n - (intOf u).toNat)
    case atStart => exact ⟨0, Nat.zero_le _, rfl, rfl, 0, rfl⟩
    case round =>
      obtain ⟨i, hin, rfl, heq, q, rfl⟩ := hrel
      have HE := Lib.hid heq
      clear heq
      by_cases hlt : i < n
      · obtain ⟨B1, O1, A1, c1, r1, rfl, hr1, hc1, hd1⟩ := HA.out.1.row (by rw [List.length_map, HL.out]) hlt
        obtain ⟨B2, O2, A2, c2, r2, rfl, hr2, hc2, hd2⟩ := HA.out.2.1.row (by rw [List.length_map]; exact Hn.out) hlt
        obtain ⟨x1, hx1, rfl⟩ := intl_rows_at hr1
        obtain ⟨x2, hx2, rfl⟩ := intl_rows_at hr2
        rw [intl_len] at hc1 hc2 hd1 hd2
        have hs1 := HA.out.2.2.1 x1 (List.mem_of_getElem? hx1)
        have hs2 := HA.out.2.2.2 x2 (List.mem_of_getElem? hx2)
        have HX := Lib.hid (And.intro hx1 (And.intro hx2 (And.intro hd1 hd2)))
        clear hr1 hr2 hd1 hd2 hx1 hx2
        have i1 : (0 : Int) ≤ (i : Int) := by omega
        have i2 : (i : Int) < (n : Int) := by omega
        go_wp2_with fail
        go_quiet (fail)
        by_cases hxl : x1.length = x2.length
        · have hb1 : ((x1.length : Int) != (x2.length : Int)) = false := by simp [hxl]
          have HXL := Lib.hid hxl
          generalize hm : x2.length = m at *
          have HM := Lib.hid hm
          clear hm
          rw [hxl] at hc1 hs1 hb1 HX ⊢
          clear hxl
          go_wp2
          go_loopw [6] (fun u wr => ∃ j : Nat, j ≤ m ∧ u = .int .i64 j ∧ x1.take j = x2.take j ∧ ∃ k, wr = w.drewN k) (fun u _ => m - (intOf u).toNat)
          case atStart => exact ⟨0, Nat.zero_le _, rfl, rfl, _, World.drewN_drewN _ _ _⟩
          case round =>
            obtain ⟨j, hjm, rfl, hej, q2, rfl⟩ := hrel
            have HJ := Lib.hid hej
            clear hej
            by_cases hjt : j < m
            · obtain ⟨hx1, hx2, hd1, hd2⟩ := HX.out
              obtain ⟨C1, D1, rfl, _, he1⟩ := hd1.addr (by omega)
              obtain ⟨C2, D2, rfl, _, he2⟩ := hd2.addr (by omega)
              obtain ⟨y1, hy1⟩ : ∃ y, x1[j]? = some y := ⟨_, List.getElem?_eq_getElem (by have := HXL.out; omega)⟩
              obtain ⟨y2, hy2⟩ : ∃ y, x2[j]? = some y := ⟨_, List.getElem?_eq_getElem (by have := HM.out; omega)⟩
              have k1 : w.cell? ⟨C1, D1 + j, none⟩ = some (.int .i64 y1) := he1 j _ (intl_at hy1)
              have k2 : w.cell? ⟨C2, D2 + j, none⟩ = some (.int .i64 y2) := he2 j _ (intl_at hy2)
              have j1 : (0 : Int) ≤ (j : Int) := by omega
              have j2 : (j : Int) < (m : Int) := by omega
              have HY := Lib.hid (And.intro hy1 hy2)
              clear hx1 hx2 hd1 hd2 he1 he2 hy1 hy2
              by_cases hyy : y1 = y2
              · have hb2 : (y1 != y2) = false := by simp [hyy]
                have HYY := Lib.hid hyy
                clear hyy
                go_wp2_with fail
                go_quiet (fail)
                go_wp2
                go_roundw
                case rel => exact ⟨j + 1, by omega, by go_num, by rw [List.take_add_one, List.take_add_one, HJ.out, HY.out.1, HY.out.2, HYY.out], by first | exact ⟨_, rfl⟩ | exact ⟨_, World.drewN_drewN _ _ _⟩⟩
                case measure => simp [intOf]; omega
              · have hb2 : (y1 != y2) = true := by simp [hyy]
                have HYY := Lib.hid hyy
                clear hyy
                go_wp2_with fail
                go_quiet (fail)
                go_wp2
                go_ret
                refine ⟨ret_bool ?_, _, World.drewN_drewN _ _ _⟩
                symm
                rw [decide_eq_false_iff_not]
                intro e
                obtain ⟨hx1, hx2, _⟩ := HX.out
                rw [e, hx2] at hx1
                obtain rfl := Option.some.inj hx1
                have := HY.out.1
                rw [HY.out.2] at this
                exact HYY.out (Option.some.inj this).symm
            · obtain rfl : j = m := by omega
              have HS := Lib.hid hc1
              go_wp2
              go_roundw
              case rel =>
                refine ⟨i + 1, by omega, by go_num, ?_, _, rfl⟩
                obtain ⟨hx1, hx2, _⟩ := HX.out
                have e1 := HJ.out
                rw [List.take_of_length_le (by have := HXL.out; omega), List.take_of_length_le (by have := HM.out; omega)] at e1
                rw [List.take_add_one, List.take_add_one, HE.out, hx1, hx2, e1]
              case measure => simp [intOf]; omega
        · have hb1 : ((x1.length : Int) != (x2.length : Int)) = true := by rw [bne_iff_ne]; omega
          go_wp2
          go_ret
          refine ⟨ret_bool ?_, _, World.drewN_drewN _ _ _⟩
          symm
          rw [decide_eq_false_iff_not]
          intro e
          obtain ⟨hx1, hx2, _⟩ := HX.out
          rw [e, hx2] at hx1
          obtain rfl := Option.some.inj hx1
          exact hxl rfl
      · obtain rfl : i = n := by omega
        go_wp2
        go_ret
        refine ⟨ret_bool ?_, _, rfl⟩
        symm
        rw [decide_eq_true_eq]
        have e1 := HE.out
        rwa [List.take_of_length_le (by have := HL.out; omega), List.take_of_length_le (by have := Hn.out; omega)] at e1
  · have hb1 : ((la.length : Int) != (lb.length : Int)) = true := by rw [bne_iff_ne]; omega
    go_enter Try.func12, Try.ntmps12
    go_wp2
    go_ret
    refine ⟨ret_bool ?_, 0, rfl⟩
    symm
    rw [decide_eq_false_iff_not]
    intro e
    exact hl (by rw [e])
end Go.Proofs.Ytogbdilbbofdiaa
