/-
  UniteParts: the walk.
-/
import Derived.Test.YtogbdilbbofdiaaUnR
import Derived.Test.YtogbdilbbofdiaaUnH
import Derived.Test.YtogbdilbbofdiaaUnI
import Derived.Test.YtogbdilbbofdiaaReg
namespace Go.Proofs.Ytogbdilbbofdiaa
open Go.RowKit
attribute [local simp] fr_drew_iff sets_drew_iff below_drew_iff

theorem SetsAt.left_ {w : World} {h : At} {L : List Nat} (hs : SetsAt w h L) (a b : Int) : (roots (joinL L a b) : Int) = (roots L : Int) - if joinB L a b then 1 else 0 := by
  obtain ⟨up, least, many, left, g, rk, K, hr, hf, hd⟩ := hs
  cases ha : of_ L a with
  | none => rw [(joinB_left ha).1, (joinB_left ha).2]; simp
  | some x =>
    cases hb : of_ L b with
    | none => rw [(joinB_right hb).1, (joinB_right hb).2]; simp
    | some y =>
      by_cases e : x = y
      · subst e
        rw [(joinB_same ha hb).1, (joinB_same ha hb).2]; simp
      · rw [(joinB_two ha hb e).1, (joinB_two ha hb e).2]
        obtain ⟨i, rfl, hi, hi'⟩ := of_some ha
        obtain ⟨j, rfl, hj, hj'⟩ := of_some hb
        obtain ⟨h1, h2⟩ := hd.union hi' hj' e rfl rfl (by rw [hr.ll]; exact hf.glt i hi)
        have h3 := h1.left
        have h4 := hd.left
        simp
        omega

/-- Groups, in memory of one's own behind block B; and what they are made of. -/
structure Parts (m B : Nat) (w0 wr : World) (h : At) (L : List Nat) : Prop where
  s : SetsAt wr h L
  c : Canon L
  len : L.length = m
  from_ : h.from B
  wB : w0.heap.size ≤ B
  bl : Below w0.heap.size w0 wr

/-- The Sets, their groups' lists, and what has been seen: each in memory of its own. -/
structure Seen (m gS N : Nat) (w0 wr : World) (h : At) (L : List Nat) (vg : Value) (P : List Nat) : Prop where
  s : SetsAt wr h L
  g : LL wr (fun k => gS < k ∧ k < N) vg ((groupsI L).map intl)
  k : Blk wr gS 3 (ints (mark m P))
  own : ∀ q, h.own q → w0.heap.size ≤ q ∧ q < gS
  bl : Below w0.heap.size w0 wr
theorem Seen.step {m gS N : Nat} {w0 wr w' : World} {h : At} {L : List Nat} {vg : Value} {P : List Nat} (x : Seen m gS N w0 wr h L vg P) (hs : SetsAt w' h L) (hf : Fr h.own wr w') : Seen m gS N w0 w' h L vg P :=
  ⟨hs, x.g.fr hf fun q _ h1 h2 => by have := x.own q h2; omega, x.k.fr hf fun h2 => by have := x.own gS h2; omega, x.own, x.bl.trans (hf.below (fun q hq _ h2 => by have := x.own q h2; omega) x.bl.size)⟩
theorem Seen.put {m gS N v : Nat} {w0 wr : World} {h : At} {L : List Nat} {vg : Value} {P : List Nat} (x : Seen m gS N w0 wr h L vg P) (hv : v < m) (hg : w0.heap.size ≤ gS) : Seen m gS N w0 (wr.setCell ⟨gS, v, none⟩ (.int .i64 1)) h L vg (P ++ [v]) := by
  have F : Fr (fun q => q = gS) wr (wr.setCell ⟨gS, v, none⟩ (.int .i64 1)) := Fr.setCell (p := ⟨gS, v, none⟩) (Fr.refl (fun q => q = gS) wr) (.inl rfl) _
  refine ⟨x.s.fr F fun q _ h1 h2 => by have := x.own q h1; omega, x.g.fr F fun q _ h1 h2 => by omega, ?_, x.own, x.bl.setCell hg _⟩
  have h1 := x.k.set_ v (.int .i64 1)
  rw [ints_set, mark_set P hv] at h1
  exact h1

theorem Seen.row {m gS N gn k cg : Nat} {w0 wr : World} {h : At} {L : List Nat} {Ag : Option Addr} {P r : List Nat} (x : Seen m gS N w0 wr h L (.slice Ag gn cg) P) (hgn : (groups L).length = gn) (hk : (groups L)[k]? = some r) (hr : 0 < r.length) :
    ∃ B O B' O' c' : Nat, Ag = some ⟨B, O, none⟩ ∧ ¬ h.own B ∧ ¬ h.own B' ∧ wr.cell? ⟨B, O + k, none⟩ = some (.slice (some ⟨B', O', none⟩) r.length c') ∧ ∀ j v : Nat, r[j]? = some v → wr.cell? ⟨B', O' + j, none⟩ = some (.int .i64 (v : Int)) := by
  obtain ⟨A0, c0, vs, e, h1, h2⟩ := x.g
  injection e with e1 e2 e3
  subst e1
  have hkl := (List.getElem?_eq_some_iff.1 hk).1
  obtain ⟨B, O, rfl, hS, hc⟩ := h1.addr (by rw [List.length_map, groupsI_len']; omega)
  have hvl := h1.1
  rw [List.length_map, groupsI_len'] at hvl
  obtain ⟨u, hu⟩ : ∃ u, vs[k]? = some u := ⟨_, List.getElem?_eq_getElem (by omega)⟩
  have hrow : ((groupsI L).map intl)[k]? = some (intl (r.map Int.ofNat)) := by rw [List.getElem?_map, groupsI_at hk]; rfl
  obtain ⟨A', c', rfl, h3⟩ := h2 k u _ hu hrow
  rw [intl_len, List.length_map] at h3
  obtain ⟨B', O', rfl, hS', hc'⟩ := h3.addr hr
  refine ⟨B, O, B', O', c', rfl, fun h4 => by have := x.own B h4; omega, fun h4 => by have := x.own B' h4; omega, ?_, fun j v hj => ?_⟩
  · have := hc k _ hu
    rw [intl_len, List.length_map] at this
    exact this
  · exact hc' j _ (intl_at (by rw [List.getElem?_map, hj]; rfl))

set_option maxRecDepth 100000 in
set_option maxHeartbeats 6400000 in
theorem parts_yes (A : Option Addr) (n c : Nat) (bs : List Nat) (b : Nat) (w : World) (hr : Rd w (fun _ => True) 1 A n (bytl bs)) (hb : ∀ b ∈ bs, b < 256) (hn : n ≤ maxLen) (hb8 : b < 256) :
    Calls Try.prog 6 #[.slice A n c, .int .u8 (b : Int)] w fun e w' => e = .returned (.bool true) ∧ Below w.heap.size w w' := by
  generalize hm : b % 19 = m
  have hm19 : m < 19 := by omega
  have hmi : (b : Int) % 19 = (m : Int) := by omega
  have hmk := run_make_row' (P := Try.prog) 28 3 (.int .i64 0) 8 Try.underlying28 int_info rfl .i64 .i64 m (by omega) (by omega)
  have HMK := Lib.hid hmk
  clear hmk
  go_enter Try.func6, Try.ntmps6
  go_wp2_with fail
  refine (new_any _ m _ (by omega) (by omega)).mono ?_
  rintro e w1 ⟨h, rfl, hs1, hfrom1, hb1⟩
  have H1 := Lib.hid (And.intro hs1 (And.intro hfrom1 hb1))
  clear hs1 hfrom1 hb1
  go_wp2_with fail
  refine (pairs_any A n c bs _ (hr.below H1.out.2.2) hb hn).mono ?_
  rintro e w2 ⟨v, prs, rfl, hl2, hp30, hb2⟩
  obtain ⟨Al, cl, rfl⟩ : ∃ A c, v = .slice A prs.length c := by
    obtain ⟨A, c, e⟩ := hl2.form
    rw [List.length_map] at e
    exact ⟨A, c, e⟩
  have hP : Parts m w.heap.size w w2 h (List.range m) := ⟨H1.out.1.below hb2, Canon.range m, by simp, H1.out.2.1, Nat.le_refl _, below_step H1.out.2.2 hb2 H1.out.2.2.size⟩
  have hlt1 : ∀ k, h.own k → k < w1.heap.size := fun k hk => H1.out.1.own_lt hk
  have HP := Lib.hid (And.intro hP (And.intro hl2 hlt1))
  have e0 : (m : Int) = (roots (List.range m) : Int) := by
    have : roots (List.range m) = m := roots_range m
    omega
  have HE := Lib.hid e0
  clear hP hl2 hb2 hm hmi hr e0 hlt1
  generalize hl : prs.length = len at *
  have Hl := Lib.hid hl
  clear hl
  go_wp2_with fail
  go_loopw [8, 9] (fun x u wr => ∃ k : Nat, u = .int .i64 k ∧ k ≤ len ∧ x = .int .i64 (roots (joins (List.range m) (prs.take k)) : Int) ∧ Parts m w.heap.size w wr h (joins (List.range m) (prs.take k)) ∧ LL wr (fun k => w1.heap.size ≤ k ∧ k < w2.heap.size) (.slice Al len cl) (prs.map prow))
    (fun _ u _ => len - (intOf u).toNat)
  case atStart => exact ⟨0, rfl, Nat.zero_le _, by rw [HE.out]; rfl, HP.out.1, HP.out.2.1⟩
  case round =>
    obtain ⟨k, rfl, hk, rfl, hT, hL⟩ := hrel
    by_cases hlt : k < len
    · obtain ⟨rB, rO, rB', rO', rc, p, rfl, hp, hc0, hc1, hc2⟩ := hL.row0 Hl.out hlt
      have HH := Lib.hid (And.intro hT (And.intro hL hp))
      have i1 : (0 : Int) ≤ (k : Int) := by omega
      have i2 : (k : Int) < (len : Int) := by omega
      clear hT hL hp
      generalize hcur : joins (List.range m) (prs.take k) = Lk at *
      have hrl : roots Lk ≤ 1000 := by
        have := roots_le Lk
        have := HH.out.1.len
        omega
      have hjl := HH.out.1.s.left_ p.1 p.2
      have HJ := Lib.hid hjl
      clear hjl
      have Hcur := Lib.hid hcur
      clear hcur
      go_wp2_with fail
      go_still_tail 13, (by kernel_rfl)
      go_wp2_with fail
      refine (join_any p.1 p.2 _ (HH.out.1.s.drewN 1)).mono ?_
      rintro e w4 ⟨rfl, hs4, hf4⟩
      have hT4 : Parts m w.heap.size w w4 h (joinL Lk p.1 p.2) := ⟨hs4, HH.out.1.c.join _ _, by rw [joinL_len]; exact HH.out.1.len, HH.out.1.from_, HH.out.1.wB, HH.out.1.bl.trans (hf4.undrew.own_below HH.out.1.from_ HH.out.1.bl.size)⟩
      have hL4 := HH.out.2.1.fr hf4.undrew (fun q _ h1 h2 => by have := HP.out.2.2 q h2; omega)
      have HT4 := Lib.hid (And.intro hT4 hL4)
      clear hs4 hf4 hT4 hL4
      cases hjb : joinB Lk p.1 p.2 with
      | true =>
        go_wp2
        go_roundw
        case rel =>
          have e : prs.take (k + 1) = prs.take k ++ [p] := by rw [List.take_add_one, HH.out.2.2]; rfl
          refine ⟨k + 1, by go_num, hlt, ?_, ?_, HT4.out.2⟩
          · rw [e, joins_snoc, Hcur.out, HJ.out, hjb]; rfl
          · rw [e, joins_snoc, Hcur.out]; exact HT4.out.1
        case measure => simp [intOf]; omega
      | false =>
        go_wp2
        go_roundw
        case rel =>
          have e : prs.take (k + 1) = prs.take k ++ [p] := by rw [List.take_add_one, HH.out.2.2]; rfl
          refine ⟨k + 1, by go_num, hlt, ?_, ?_, HT4.out.2⟩
          · rw [e, joins_snoc, Hcur.out, HJ.out, hjb]; simp
          · rw [e, joins_snoc, Hcur.out]; exact HT4.out.1
        case measure => simp [intOf]; omega
    · obtain rfl : k = len := by omega
      have e1 : prs.take k = prs := List.take_of_length_le (by have := Hl.out; omega)
      rw [e1]
      rw [e1] at hT
      generalize joins (List.range m) prs = L at *
      have HH := Lib.hid hT
      clear hT hL e1 HP HE
      have hmk := HMK.out
      go_wp2_with fail
      refine (groups_int (h := h) (L := L) _ (HH.out.s.alloc _)).mono ?_
      rintro e w5 ⟨vg, rfl, hl5, hs5, hf5⟩
      have hgw : w.heap.size ≤ wr.heap.size := HH.out.bl.size
      have X0 : Seen m wr.heap.size w5.heap.size w w5 h L vg [] := by
        refine ⟨hs5, hl5.mono fun q _ hq => ⟨by have := hq.1; simp at this; omega, hq.2⟩, ?_, fun q hq => ⟨At.from_own HH.out.from_ hq, HH.out.s.own_lt hq⟩, ?_⟩
        · have h1 := (Blk.new wr 3 (madeCells #[.int .i64 0] m)).fr hf5 (fun h2 => by have := HH.out.s.own_lt h2; omega)
          rw [made_ints] at h1
          rw [mark_nil]
          exact h1
        · exact (HH.out.bl.alloc hgw _).trans (hf5.own_below HH.out.from_ (by simp; omega))
      obtain ⟨Ag, cg, rfl⟩ : ∃ A c, vg = .slice A (groups L).length c := by
        obtain ⟨A, c, e⟩ := hl5.form
        rw [List.length_map, groupsI_len'] at e
        exact ⟨A, c, e⟩
      have hG1000 : (groups L).length ≤ 1000 := by
        have := groupsI_len L
        rw [groupsI_len'] at this
        have := HH.out.len
        omega
      have X := Lib.hid X0
      clear X0 hs5 hf5 hl5 hmk
      have Hc := Lib.hid (And.intro HH.out.c HH.out.len)
      generalize wr.heap.size = gS at *
      generalize w5.heap.size = N at *
      generalize hgn : (groups L).length = gn at *
      have Hgn := Lib.hid hgn
      clear hgn
      generalize hleft : roots L = left at *
      have Hleft := Lib.hid hleft
      clear hleft
      go_wp2_with fail
      go_loopw [12, 13, 14] (fun u _ _ wx => ∃ k : Nat, u = .int .i64 k ∧ k ≤ gn ∧ Seen m gS N w wx h L (.slice Ag gn cg) (seenTo L k))
        (fun u _ _ _ => gn - (intOf u).toNat)
      case atStart => exact ⟨0, rfl, Nat.zero_le _, X.out⟩
      case round =>
        obtain ⟨k, rfl, hk, hX⟩ := hrel
        by_cases hlt : k < gn
        · obtain ⟨r, hr⟩ : ∃ r, (groups L)[k]? = some r := ⟨_, List.getElem?_eq_getElem (by have := Hgn.out; omega)⟩
          obtain ⟨l, hl1, hl2, hl3, hl4⟩ := group_fact Hc.out.1 hr
          have hr0 : 0 < r.length := (List.getElem?_eq_some_iff.1 hl3).1
          have hrm : r.length ≤ m := by
            rw [hl2]
            exact Nat.le_trans (List.length_filter_le _ _) (by simp [Hc.out.2])
          obtain ⟨B, O, B', O', c', rfl, hnB, hnB', hc0, hcs⟩ := hX.row Hgn.out hr hr0
          have HX := Lib.hid (And.intro hX (And.intro hr (And.intro hl1 (And.intro hl2 (And.intro hl3 hl4)))))
          have HC := Lib.hid hcs
          clear hX hr hl1 hl2 hl3 hl4 hcs
          generalize hrl : r.length = rl at *
          have Hrl := Lib.hid hrl
          clear hrl
          generalize wr = wo at *
          go_wp2_with fail
          go_loopw [13, 14] (fun u _ wy => ∃ j : Nat, u = .int .i64 j ∧ j ≤ rl ∧ Seen m gS N w wy h L (.slice (some ⟨B, O, none⟩) gn cg) (seenTo L k ++ r.take j))
            (fun u _ _ => rl - (intOf u).toNat)
          case atStart => exact ⟨0, rfl, Nat.zero_le _, by simpa using HX.out.1⟩
          case round =>
            obtain ⟨j, rfl, hj, hY⟩ := hrel
            obtain ⟨_, _, B2, O2, c2, e, _, hnB2, hd0, hds⟩ := hY.row Hgn.out HX.out.2.1 (by have := Hrl.out; omega)
            injection e with e
            injection e with e1 e2
            subst e1
            subst e2
            rw [Hrl.out] at hd0
            have hrow0 := hds 0 l HX.out.2.2.2.2.1
            rw [Nat.add_zero] at hrow0
            have F0 : Fr h.own wr wr := Fr.refl _ _
            have hsY := hY.s
            have ik1 : (0 : Int) ≤ (k : Int) := by omega
            have ik2 : (k : Int) < (gn : Int) := by omega
            by_cases hjl : j < rl
            · obtain ⟨v, hv⟩ : ∃ v, r[j]? = some v := ⟨_, List.getElem?_eq_getElem (by have := Hrl.out; omega)⟩
              have hv1 := hv
              rw [HX.out.2.2.2.1] at hv1
              obtain ⟨hvm, hvl⟩ := grp_fact hv1
              rw [Hc.out.2] at hvm
              have hdj := hds j v hv
              have HY := Lib.hid (And.intro hY (And.intro hv hds))
              have hlv : leastI L (v : Int) = l := by
                have : of_ L (v : Int) = some l := by unfold of_; rw [if_pos (by omega), Int.toNat_natCast]; exact hvl
                simp [leastI, this]
              have hsv : sameB L (v : Int) (l : Int) = true := by
                have e1 : of_ L (v : Int) = some l := by unfold of_; rw [if_pos (by omega), Int.toNat_natCast]; exact hvl
                have e2 : of_ L (l : Int) = some l := by unfold of_; rw [if_pos (by omega), Int.toNat_natCast]; exact HX.out.2.2.2.2.2
                simp [sameB, e1, e2]
              have HF := Lib.hid (And.intro hlv hsv)
              have hn0 : (mark m (seenTo L k ++ r.take j))[v]? = some 0 := by rw [mark_at _ hvm, if_neg (not_seen Hc.out.1 HX.out.2.1 hv)]
              have HN := Lib.hid hn0
              clear hY hv hv1 hvl hds hlv hsv hn0
              generalize wr = wy at *
              have ij1 : (0 : Int) ≤ (j : Int) := by omega
              have ij2 : (j : Int) < (rl : Int) := by omega
              have td1 : decide ((v : Int) < 0) = false := by simp
              have td2 : decide ((m : Int) ≤ (v : Int)) = false := by simp; omega
              have td4 : decide (m ≤ v) = false := by simp; omega
              have td3 : decide ((v : Int) ≥ (m : Int)) = false := by simp; omega
              go_upto_region 21 with fail
              go_cut [14, 120] (fun s14 s120 wx => s14 = .int .i64 (v : Int) ∧ s120 = .bool false ∧ SetsAt wx h L ∧ Fr h.own wy wx)
              case first =>
                rcases Nat.eq_zero_or_pos j with hj0 | hj0
                · subst hj0
                  obtain evl : l = v := Option.some.inj (HX.out.2.2.2.2.1.symm.trans HY.out.2.1)
                  subst evl
                  clear hdj
                  refine wp_region_held_drew (S := fun w' => w'.cell? ⟨B, O + k, none⟩ = some (.slice (some ⟨B2, O2, none⟩) rl c2) ∧ w'.cell? ⟨B2, O2, none⟩ = some (.int .i64 (l : Int)) ∧ SetsAt w' h L ∧ Fr h.own wy w') (by kernel_rfl) (by go_keep) (fun hHeld => ?_)
                  refine take_on (i := 0) (v := ?_) rfl (by kernel_rfl) (by kernel_rfl) (by kernel_rfl) (by rfl) (by assumption) ?_ (fun _ _ _ h => h) ?_
                  rotate_left
                  · intro w' hSw; (try dsimp only at hSw); go_simp; (try with_reducible rfl)
                  (try simp only [Act.put, List.setIfInBounds_toArray, List.set_cons_zero, List.set_cons_succ])
                  refine take_on (i := 1) (v := ?_) rfl (by kernel_rfl) (by kernel_rfl) (by kernel_rfl) (by rfl) (by assumption) ?_ (fun _ _ _ h => h) ?_
                  rotate_left
                  · intro w' hSw; (try dsimp only at hSw); go_simp; (try with_reducible rfl)
                  (try simp only [Act.put, List.setIfInBounds_toArray, List.set_cons_zero, List.set_cons_succ])
                  refine take_on (i := 2) (v := ?_) rfl (by kernel_rfl) (by kernel_rfl) (by kernel_rfl) (by rfl) (by assumption) ?_ (fun _ _ _ h => h) ?_
                  rotate_left
                  · intro w' hSw; (try dsimp only at hSw); go_simp; (try with_reducible rfl)
                  (try simp only [Act.put, List.setIfInBounds_toArray, List.set_cons_zero, List.set_cons_succ])
                  refine take_on (i := 3) (v := ?_) rfl (by kernel_rfl) (by kernel_rfl) (by kernel_rfl) (by rfl) (by assumption) ?_ (fun _ _ _ h => h) ?_
                  rotate_left
                  · intro w' hSw; (try dsimp only at hSw); go_simp; (try with_reducible rfl)
                  (try simp only [Act.put, List.setIfInBounds_toArray, List.set_cons_zero, List.set_cons_succ])
                  refine take_on (i := 4) (v := ?_) rfl (by kernel_rfl) (by kernel_rfl) (by kernel_rfl) (by rfl) (by assumption) ?_ (fun _ _ _ h => h) ?_
                  rotate_left
                  · intro w' hSw; (try dsimp only at hSw); go_simp; (try with_reducible rfl)
                  (try simp only [Act.put, List.setIfInBounds_toArray, List.set_cons_zero, List.set_cons_succ])
                  refine take_on (i := 5) (v := ?_) rfl (by kernel_rfl) (by kernel_rfl) (by kernel_rfl) (by rfl) (by assumption) ?_ (fun _ _ _ h => h) ?_
                  rotate_left
                  · intro w' hSw; (try dsimp only at hSw); go_simp; (try with_reducible rfl)
                  (try simp only [Act.put, List.setIfInBounds_toArray, List.set_cons_zero, List.set_cons_succ])
                  refine take_on (i := 6) (v := ?_) rfl (by kernel_rfl) (by kernel_rfl) (by kernel_rfl) (by rfl) (by assumption) ?_ (fun _ _ _ h => h) ?_
                  rotate_left
                  · intro w' hSw; (try dsimp only at hSw); go_simp; (try with_reducible rfl)
                  (try simp only [Act.put, List.setIfInBounds_toArray, List.set_cons_zero, List.set_cons_succ])
                  refine take_on (i := 7) (v := ?_) rfl (by kernel_rfl) (by kernel_rfl) (by kernel_rfl) (by rfl) (by assumption) ?_ (fun _ _ _ h => h) ?_
                  rotate_left
                  · intro w' hSw; (try dsimp only at hSw); go_simp; (try with_reducible rfl)
                  (try simp only [Act.put, List.setIfInBounds_toArray, List.set_cons_zero, List.set_cons_succ])
                  refine take_on (i := 8) (v := ?_) rfl (by kernel_rfl) (by kernel_rfl) (by kernel_rfl) (by rfl) (by assumption) ?_ (fun _ _ _ h => h) ?_
                  rotate_left
                  · intro w' hSw; (try dsimp only at hSw); go_simp; (try with_reducible rfl)
                  (try simp only [Act.put, List.setIfInBounds_toArray, List.set_cons_zero, List.set_cons_succ])
                  refine take_on (i := 9) (v := ?_) rfl (by kernel_rfl) (by kernel_rfl) (by kernel_rfl) (by rfl) (by assumption) ?_ (fun _ _ _ h => h) ?_
                  rotate_left
                  · intro w' hSw; (try dsimp only at hSw); go_simp; (try with_reducible rfl)
                  (try simp only [Act.put, List.setIfInBounds_toArray, List.set_cons_zero, List.set_cons_succ])
                  refine take_on (i := 11) (v := ?_) rfl (by kernel_rfl) (by kernel_rfl) (by kernel_rfl) (by rfl) (by assumption) ?_ (fun _ _ _ h => h) ?_
                  rotate_left
                  · intro w' hSw; (try dsimp only at hSw); go_simp; (try with_reducible rfl)
                  (try simp only [Act.put, List.setIfInBounds_toArray, List.set_cons_zero, List.set_cons_succ])
                  refine take_on (i := 12) (v := ?_) rfl (by kernel_rfl) (by kernel_rfl) (by kernel_rfl) (by rfl) (by assumption) ?_ (fun _ _ _ h => h) ?_
                  rotate_left
                  · intro w' hSw; (try dsimp only at hSw); go_simp; (try with_reducible rfl)
                  (try simp only [Act.put, List.setIfInBounds_toArray, List.set_cons_zero, List.set_cons_succ])
                  refine take_on (i := 13) (v := ?_) rfl (by kernel_rfl) (by kernel_rfl) (by kernel_rfl) (by rfl) (by assumption) ?_ (fun _ _ _ h => h) ?_
                  rotate_left
                  · intro w' hSw; (try dsimp only at hSw); go_simp; (try with_reducible rfl)
                  (try simp only [Act.put, List.setIfInBounds_toArray, List.set_cons_zero, List.set_cons_succ])
                  refine take_on (i := 14) (v := ?_) rfl (by kernel_rfl) (by kernel_rfl) (by kernel_rfl) (by rfl) (by assumption) ?_ (fun _ _ _ h => h) ?_
                  rotate_left
                  · intro w' hSw; (try dsimp only at hSw); go_simp; (try with_reducible rfl)
                  (try simp only [Act.put, List.setIfInBounds_toArray, List.set_cons_zero, List.set_cons_succ])
                  refine take_on (i := 15) (v := ?_) rfl (by kernel_rfl) (by kernel_rfl) (by kernel_rfl) (by rfl) (by assumption) ?_ (fun _ _ _ h => h) ?_
                  rotate_left
                  · intro w' hSw; (try dsimp only at hSw); go_simp; (try with_reducible rfl)
                  (try simp only [Act.put, List.setIfInBounds_toArray, List.set_cons_zero, List.set_cons_succ])
                  refine take_on (i := 16) (v := ?_) rfl (by kernel_rfl) (by kernel_rfl) (by kernel_rfl) (by rfl) (by assumption) ?_ (fun _ _ _ h => h) ?_
                  rotate_left
                  · intro w' hSw; (try dsimp only at hSw); go_simp; (try with_reducible rfl)
                  (try simp only [Act.put, List.setIfInBounds_toArray, List.set_cons_zero, List.set_cons_succ])
                  refine take_call (i := 10) rfl (by kernel_rfl) (by rfl) (fun K hK => ?_)
                  go_simp
                  refine (least_at (h := h) (L := L) (r := (l : Int)) _ _ (by simp [*]) HF.out.1).mono ?_
                  rintro e w6 ⟨rfl, hs6, hf6⟩
                  obtain ⟨ka1, ka2⟩ := frame_step (w := wy) (p := ⟨B, O + k, none⟩) (by assumption) (by assumption) hf6 hnB (by first | exact .inl rfl | exact .inr rfl)
                  obtain ⟨ka3, ka4⟩ := frame_step (w := wy) (p := ⟨B2, O2, none⟩) (by assumption) (by assumption) hf6 hnB2 (by first | exact .inl rfl | exact .inr rfl)
                  go_wp2_with fail
                  refine hK.out _ _ (by go_keep) (fun hHeld => ?_)
                  clear hK K
                  (try simp only [Act.put, List.setIfInBounds_toArray, List.set_cons_zero, List.set_cons_succ])
                  refine take_on (i := 17) (v := ?_) rfl (by kernel_rfl) (by kernel_rfl) (by kernel_rfl) (by rfl) (by assumption) ?_ (fun _ _ _ h => h) ?_
                  rotate_left
                  · intro w' hSw; (try dsimp only at hSw); go_simp; (try with_reducible rfl)
                  (try simp only [Act.put, List.setIfInBounds_toArray, List.set_cons_zero, List.set_cons_succ])
                  refine take_on (i := 18) (v := ?_) rfl (by kernel_rfl) (by kernel_rfl) (by kernel_rfl) (by rfl) (by assumption) ?_ (fun _ _ _ h => h) ?_
                  rotate_left
                  · intro w' hSw; (try dsimp only at hSw); go_simp; (try with_reducible rfl)
                  (try simp only [Act.put, List.setIfInBounds_toArray, List.set_cons_zero, List.set_cons_succ])
                  refine take_on (i := 19) (v := ?_) rfl (by kernel_rfl) (by kernel_rfl) (by kernel_rfl) (by rfl) (by assumption) ?_ (fun _ _ _ h => h) ?_
                  rotate_left
                  · intro w' hSw; (try dsimp only at hSw); go_simp; (try with_reducible rfl)
                  (try simp only [Act.put, List.setIfInBounds_toArray, List.set_cons_zero, List.set_cons_succ])
                  refine take_on (i := 20) (v := ?_) rfl (by kernel_rfl) (by kernel_rfl) (by kernel_rfl) (by rfl) (by assumption) ?_ (fun _ _ _ h => h) ?_
                  rotate_left
                  · intro w' hSw; (try dsimp only at hSw); go_simp; (try with_reducible rfl)
                  (try simp only [Act.put, List.setIfInBounds_toArray, List.set_cons_zero, List.set_cons_succ])
                  refine take_on (i := 21) (v := ?_) rfl (by kernel_rfl) (by kernel_rfl) (by kernel_rfl) (by rfl) (by assumption) ?_ (fun _ _ _ h => h) ?_
                  rotate_left
                  · intro w' hSw; (try dsimp only at hSw); go_simp; (try with_reducible rfl)
                  (try simp only [Act.put, List.setIfInBounds_toArray, List.set_cons_zero, List.set_cons_succ])
                  refine take_on (i := 22) (v := ?_) rfl (by kernel_rfl) (by kernel_rfl) (by kernel_rfl) (by rfl) (by assumption) ?_ (fun _ _ _ h => h) ?_
                  rotate_left
                  · intro w' hSw; (try dsimp only at hSw); go_simp; (try with_reducible rfl)
                  (try simp only [Act.put, List.setIfInBounds_toArray, List.set_cons_zero, List.set_cons_succ])
                  refine take_on (i := 23) (v := ?_) rfl (by kernel_rfl) (by kernel_rfl) (by kernel_rfl) (by rfl) (by assumption) ?_ (fun _ _ _ h => h) ?_
                  rotate_left
                  · intro w' hSw; (try dsimp only at hSw); go_simp; (try with_reducible rfl)
                  (try simp only [Act.put, List.setIfInBounds_toArray, List.set_cons_zero, List.set_cons_succ])
                  refine take_on (i := 24) (v := ?_) rfl (by kernel_rfl) (by kernel_rfl) (by kernel_rfl) (by rfl) (by assumption) ?_ (fun _ _ _ h => h) ?_
                  rotate_left
                  · intro w' hSw; (try dsimp only at hSw); go_simp; (try with_reducible rfl)
                  (try simp only [Act.put, List.setIfInBounds_toArray, List.set_cons_zero, List.set_cons_succ])
                  refine take_on (i := 25) (v := ?_) rfl (by kernel_rfl) (by kernel_rfl) (by kernel_rfl) (by rfl) (by assumption) ?_ (fun _ _ _ h => h) ?_
                  rotate_left
                  · intro w' hSw; (try dsimp only at hSw); go_simp; (try with_reducible rfl)
                  (try simp only [Act.put, List.setIfInBounds_toArray, List.set_cons_zero, List.set_cons_succ])
                  refine take_on (i := 26) (v := ?_) rfl (by kernel_rfl) (by kernel_rfl) (by kernel_rfl) (by rfl) (by assumption) ?_ (fun _ _ _ h => h) ?_
                  rotate_left
                  · intro w' hSw; (try dsimp only at hSw); go_simp; (try with_reducible rfl)
                  (try simp only [Act.put, List.setIfInBounds_toArray, List.set_cons_zero, List.set_cons_succ])
                  refine take_on (i := 27) (v := ?_) rfl (by kernel_rfl) (by kernel_rfl) (by kernel_rfl) (by rfl) (by assumption) ?_ (fun _ _ _ h => h) ?_
                  rotate_left
                  · intro w' hSw; (try dsimp only at hSw); go_simp; (try with_reducible rfl)
                  (try simp only [Act.put, List.setIfInBounds_toArray, List.set_cons_zero, List.set_cons_succ])
                  refine take_call (i := 28) rfl (by kernel_rfl) (by rfl) (fun K hK => ?_)
                  go_simp
                  refine (same_at (h := h) (L := L) (r := true) _ _ _ (by simp [*]) HF.out.2).mono ?_
                  rintro e w7 ⟨rfl, hs7, hf7⟩
                  obtain ⟨kb1, kb2⟩ := frame_step (w := wy) (p := ⟨B, O + k, none⟩) (by assumption) (by assumption) hf7 hnB (by first | exact .inl rfl | exact .inr rfl)
                  obtain ⟨kb3, kb4⟩ := frame_step (w := wy) (p := ⟨B2, O2, none⟩) (by assumption) (by assumption) hf7 hnB2 (by first | exact .inl rfl | exact .inr rfl)
                  go_wp2_with fail
                  refine hK.out _ _ (by go_keep) (fun hHeld => ?_)
                  clear hK K
                  (try simp only [Act.put, List.setIfInBounds_toArray, List.set_cons_zero, List.set_cons_succ])
                  refine take_on (i := 29) (v := ?_) rfl (by kernel_rfl) (by kernel_rfl) (by kernel_rfl) (by rfl) (by assumption) ?_ (fun _ _ _ h => h) ?_
                  rotate_left
                  · intro w' hSw; (try dsimp only at hSw); go_simp; (try with_reducible rfl)
                  (try simp only [Act.put, List.setIfInBounds_toArray, List.set_cons_zero, List.set_cons_succ])
                  refine take_on (i := 30) (v := ?_) rfl (by kernel_rfl) (by kernel_rfl) (by kernel_rfl) (by rfl) (by assumption) ?_ (fun _ _ _ h => h) ?_
                  rotate_left
                  · intro w' hSw; (try dsimp only at hSw); go_simp; (try with_reducible rfl)
                  (try simp only [Act.put, List.setIfInBounds_toArray, List.set_cons_zero, List.set_cons_succ])
                  refine take_on (i := 31) (v := ?_) rfl (by kernel_rfl) (by kernel_rfl) (by kernel_rfl) (by rfl) (by assumption) ?_ (fun _ _ _ h => h) ?_
                  rotate_left
                  · intro w' hSw; (try dsimp only at hSw); go_simp; (try with_reducible rfl)
                  (try simp only [Act.put, List.setIfInBounds_toArray, List.set_cons_zero, List.set_cons_succ])
                  refine take_on (i := 32) (v := ?_) rfl (by kernel_rfl) (by kernel_rfl) (by kernel_rfl) (by rfl) (by assumption) ?_ (fun _ _ _ h => h) ?_
                  rotate_left
                  · intro w' hSw; (try dsimp only at hSw); go_simp; (try with_reducible rfl)
                  (try simp only [Act.put, List.setIfInBounds_toArray, List.set_cons_zero, List.set_cons_succ])
                  refine take_on (i := 33) (v := ?_) rfl (by kernel_rfl) (by kernel_rfl) (by kernel_rfl) (by rfl) (by assumption) ?_ (fun _ _ _ h => h) ?_
                  rotate_left
                  · intro w' hSw; (try dsimp only at hSw); go_simp; (try with_reducible rfl)
                  (try simp only [Act.put, List.setIfInBounds_toArray, List.set_cons_zero, List.set_cons_succ])
                  refine take_on (i := 34) (v := ?_) rfl (by kernel_rfl) (by kernel_rfl) (by kernel_rfl) (by rfl) (by assumption) ?_ (fun _ _ _ h => h) ?_
                  rotate_left
                  · intro w' hSw; (try dsimp only at hSw); go_simp; (try with_reducible rfl)
                  (try simp only [Act.put, List.setIfInBounds_toArray, List.set_cons_zero, List.set_cons_succ])
                  refine take_off (i := 35) rfl (by kernel_rfl) (by kernel_rfl) (by kernel_rfl) (by rfl) (by assumption) (fun _ _ _ h => h) ?_
                  (try simp only [Act.put, List.setIfInBounds_toArray, List.set_cons_zero, List.set_cons_succ])
                  refine take_off (i := 36) rfl (by kernel_rfl) (by kernel_rfl) (by kernel_rfl) (by rfl) (by assumption) (fun _ _ _ h => h) ?_
                  (try simp only [Act.put, List.setIfInBounds_toArray, List.set_cons_zero, List.set_cons_succ])
                  refine take_off (i := 37) rfl (by kernel_rfl) (by kernel_rfl) (by kernel_rfl) (by rfl) (by assumption) (fun _ _ _ h => h) ?_
                  (try simp only [Act.put, List.setIfInBounds_toArray, List.set_cons_zero, List.set_cons_succ])
                  refine take_off (i := 38) rfl (by kernel_rfl) (by kernel_rfl) (by kernel_rfl) (by rfl) (by assumption) (fun _ _ _ h => h) ?_
                  (try simp only [Act.put, List.setIfInBounds_toArray, List.set_cons_zero, List.set_cons_succ])
                  refine take_off (i := 39) rfl (by kernel_rfl) (by kernel_rfl) (by kernel_rfl) (by rfl) (by assumption) (fun _ _ _ h => h) ?_
                  (try simp only [Act.put, List.setIfInBounds_toArray, List.set_cons_zero, List.set_cons_succ])
                  refine take_off (i := 40) rfl (by kernel_rfl) (by kernel_rfl) (by kernel_rfl) (by rfl) (by assumption) (fun _ _ _ h => h) ?_
                  (try simp only [Act.put, List.setIfInBounds_toArray, List.set_cons_zero, List.set_cons_succ])
                  refine take_off (i := 41) rfl (by kernel_rfl) (by kernel_rfl) (by kernel_rfl) (by rfl) (by assumption) (fun _ _ _ h => h) ?_
                  (try simp only [Act.put, List.setIfInBounds_toArray, List.set_cons_zero, List.set_cons_succ])
                  refine take_off (i := 42) rfl (by kernel_rfl) (by kernel_rfl) (by kernel_rfl) (by rfl) (by assumption) (fun _ _ _ h => h) ?_
                  (try simp only [Act.put, List.setIfInBounds_toArray, List.set_cons_zero, List.set_cons_succ])
                  refine take_off (i := 43) rfl (by kernel_rfl) (by kernel_rfl) (by kernel_rfl) (by rfl) (by assumption) (fun _ _ _ h => h) ?_
                  (try simp only [Act.put, List.setIfInBounds_toArray, List.set_cons_zero, List.set_cons_succ])
                  refine take_off (i := 44) rfl (by kernel_rfl) (by kernel_rfl) (by kernel_rfl) (by rfl) (by assumption) (fun _ _ _ h => h) ?_
                  (try simp only [Act.put, List.setIfInBounds_toArray, List.set_cons_zero, List.set_cons_succ])
                  refine take_on (i := 45) (v := ?_) rfl (by kernel_rfl) (by kernel_rfl) (by kernel_rfl) (by rfl) (by assumption) ?_ (fun _ _ _ h => h) ?_
                  rotate_left
                  · intro w' hSw; (try dsimp only at hSw); go_simp; (try with_reducible rfl)
                  (try simp only [Act.put, List.setIfInBounds_toArray, List.set_cons_zero, List.set_cons_succ])
                  refine take_on (i := 46) (v := ?_) rfl (by kernel_rfl) (by kernel_rfl) (by kernel_rfl) (by rfl) (by assumption) ?_ (fun _ _ _ h => h) ?_
                  rotate_left
                  · intro w' hSw; (try dsimp only at hSw); go_simp; (try with_reducible rfl)
                  (try simp only [Act.put, List.setIfInBounds_toArray, List.set_cons_zero, List.set_cons_succ])
                  refine wpAnyH_done (by kernel_rfl) ?_ _

                  all_goals go_wp2
                  all_goals go_meet
                  all_goals exact ⟨rfl, rfl, by simp [*], by simp [*]⟩
                · obtain ⟨v0, hv0⟩ : ∃ v0, r[j - 1]? = some v0 := ⟨_, List.getElem?_eq_getElem (by have := Hrl.out; omega)⟩
                  have hdq := HY.out.2.2 (j - 1) v0 hv0
                  have hup : v0 < v := sorted_at (by rw [HX.out.2.2.2.1]; exact sorted_filter _ _) (show j - 1 < j by omega) hv0 HY.out.2.1
                  clear hv0
                  have te1 : decide ((0 : Int) < (j : Int)) = true := by simp; omega
                  have te2 : decide ((v0 : Int) ≥ (v : Int)) = false := by simp; omega
                  have te4 : decide (0 < j) = true := by simp; omega
                  have te5 : decide (v ≤ v0) = false := by simp; omega
                  have te3 : decide ((v : Int) ≤ (v0 : Int)) = false := by simp; omega
                  have iw1 : IntKind.i64.wrap ((j : Int) - 1) = (j : Int) - 1 := IntWalk.i64_in _ (by omega)
                  have iw2 : (0 : Int) ≤ (j : Int) - 1 := by omega
                  have iw5 : (1 : Int) ≤ (j : Int) := by omega
                  have iw3 : (j : Int) - 1 < (rl : Int) := by omega
                  have iw4 : ((j : Int) - 1).toNat = j - 1 := by omega
                  refine wp_region_held_drew (S := fun w' => w'.cell? ⟨B, O + k, none⟩ = some (.slice (some ⟨B2, O2, none⟩) rl c2) ∧ w'.cell? ⟨B2, O2, none⟩ = some (.int .i64 (l : Int)) ∧ w'.cell? ⟨B2, O2 + (j - 1), none⟩ = some (.int .i64 (v0 : Int)) ∧ SetsAt w' h L ∧ Fr h.own wy w') (by kernel_rfl) (by go_keep) (fun hHeld => ?_)
                  refine take_on (i := 0) (v := ?_) rfl (by kernel_rfl) (by kernel_rfl) (by kernel_rfl) (by rfl) (by assumption) ?_ (fun _ _ _ h => h) ?_
                  rotate_left
                  · intro w' hSw; (try dsimp only at hSw); go_simp; (try with_reducible rfl)
                  (try simp only [Act.put, List.setIfInBounds_toArray, List.set_cons_zero, List.set_cons_succ])
                  refine take_on (i := 1) (v := ?_) rfl (by kernel_rfl) (by kernel_rfl) (by kernel_rfl) (by rfl) (by assumption) ?_ (fun _ _ _ h => h) ?_
                  rotate_left
                  · intro w' hSw; (try dsimp only at hSw); go_simp; (try with_reducible rfl)
                  (try simp only [Act.put, List.setIfInBounds_toArray, List.set_cons_zero, List.set_cons_succ])
                  refine take_on (i := 2) (v := ?_) rfl (by kernel_rfl) (by kernel_rfl) (by kernel_rfl) (by rfl) (by assumption) ?_ (fun _ _ _ h => h) ?_
                  rotate_left
                  · intro w' hSw; (try dsimp only at hSw); go_simp; (try with_reducible rfl)
                  (try simp only [Act.put, List.setIfInBounds_toArray, List.set_cons_zero, List.set_cons_succ])
                  refine take_on (i := 3) (v := ?_) rfl (by kernel_rfl) (by kernel_rfl) (by kernel_rfl) (by rfl) (by assumption) ?_ (fun _ _ _ h => h) ?_
                  rotate_left
                  · intro w' hSw; (try dsimp only at hSw); go_simp; (try with_reducible rfl)
                  (try simp only [Act.put, List.setIfInBounds_toArray, List.set_cons_zero, List.set_cons_succ])
                  refine take_on (i := 4) (v := ?_) rfl (by kernel_rfl) (by kernel_rfl) (by kernel_rfl) (by rfl) (by assumption) ?_ (fun _ _ _ h => h) ?_
                  rotate_left
                  · intro w' hSw; (try dsimp only at hSw); go_simp; (try with_reducible rfl)
                  (try simp only [Act.put, List.setIfInBounds_toArray, List.set_cons_zero, List.set_cons_succ])
                  refine take_on (i := 5) (v := ?_) rfl (by kernel_rfl) (by kernel_rfl) (by kernel_rfl) (by rfl) (by assumption) ?_ (fun _ _ _ h => h) ?_
                  rotate_left
                  · intro w' hSw; (try dsimp only at hSw); go_simp; (try with_reducible rfl)
                  (try simp only [Act.put, List.setIfInBounds_toArray, List.set_cons_zero, List.set_cons_succ])
                  refine take_on (i := 6) (v := ?_) rfl (by kernel_rfl) (by kernel_rfl) (by kernel_rfl) (by rfl) (by assumption) ?_ (fun _ _ _ h => h) ?_
                  rotate_left
                  · intro w' hSw; (try dsimp only at hSw); go_simp; (try with_reducible rfl)
                  (try simp only [Act.put, List.setIfInBounds_toArray, List.set_cons_zero, List.set_cons_succ])
                  refine take_on (i := 7) (v := ?_) rfl (by kernel_rfl) (by kernel_rfl) (by kernel_rfl) (by rfl) (by assumption) ?_ (fun _ _ _ h => h) ?_
                  rotate_left
                  · intro w' hSw; (try dsimp only at hSw); go_simp; (try with_reducible rfl)
                  (try simp only [Act.put, List.setIfInBounds_toArray, List.set_cons_zero, List.set_cons_succ])
                  refine take_on (i := 8) (v := ?_) rfl (by kernel_rfl) (by kernel_rfl) (by kernel_rfl) (by rfl) (by assumption) ?_ (fun _ _ _ h => h) ?_
                  rotate_left
                  · intro w' hSw; (try dsimp only at hSw); go_simp; (try with_reducible rfl)
                  (try simp only [Act.put, List.setIfInBounds_toArray, List.set_cons_zero, List.set_cons_succ])
                  refine take_on (i := 9) (v := ?_) rfl (by kernel_rfl) (by kernel_rfl) (by kernel_rfl) (by rfl) (by assumption) ?_ (fun _ _ _ h => h) ?_
                  rotate_left
                  · intro w' hSw; (try dsimp only at hSw); go_simp; (try with_reducible rfl)
                  (try simp only [Act.put, List.setIfInBounds_toArray, List.set_cons_zero, List.set_cons_succ])
                  refine take_on (i := 11) (v := ?_) rfl (by kernel_rfl) (by kernel_rfl) (by kernel_rfl) (by rfl) (by assumption) ?_ (fun _ _ _ h => h) ?_
                  rotate_left
                  · intro w' hSw; (try dsimp only at hSw); go_simp; (try with_reducible rfl)
                  (try simp only [Act.put, List.setIfInBounds_toArray, List.set_cons_zero, List.set_cons_succ])
                  refine take_on (i := 12) (v := ?_) rfl (by kernel_rfl) (by kernel_rfl) (by kernel_rfl) (by rfl) (by assumption) ?_ (fun _ _ _ h => h) ?_
                  rotate_left
                  · intro w' hSw; (try dsimp only at hSw); go_simp; (try with_reducible rfl)
                  (try simp only [Act.put, List.setIfInBounds_toArray, List.set_cons_zero, List.set_cons_succ])
                  refine take_on (i := 13) (v := ?_) rfl (by kernel_rfl) (by kernel_rfl) (by kernel_rfl) (by rfl) (by assumption) ?_ (fun _ _ _ h => h) ?_
                  rotate_left
                  · intro w' hSw; (try dsimp only at hSw); go_simp; (try with_reducible rfl)
                  (try simp only [Act.put, List.setIfInBounds_toArray, List.set_cons_zero, List.set_cons_succ])
                  refine take_on (i := 14) (v := ?_) rfl (by kernel_rfl) (by kernel_rfl) (by kernel_rfl) (by rfl) (by assumption) ?_ (fun _ _ _ h => h) ?_
                  rotate_left
                  · intro w' hSw; (try dsimp only at hSw); go_simp; (try with_reducible rfl)
                  (try simp only [Act.put, List.setIfInBounds_toArray, List.set_cons_zero, List.set_cons_succ])
                  refine take_on (i := 15) (v := ?_) rfl (by kernel_rfl) (by kernel_rfl) (by kernel_rfl) (by rfl) (by assumption) ?_ (fun _ _ _ h => h) ?_
                  rotate_left
                  · intro w' hSw; (try dsimp only at hSw); go_simp; (try with_reducible rfl)
                  (try simp only [Act.put, List.setIfInBounds_toArray, List.set_cons_zero, List.set_cons_succ])
                  refine take_on (i := 16) (v := ?_) rfl (by kernel_rfl) (by kernel_rfl) (by kernel_rfl) (by rfl) (by assumption) ?_ (fun _ _ _ h => h) ?_
                  rotate_left
                  · intro w' hSw; (try dsimp only at hSw); go_simp; (try with_reducible rfl)
                  (try simp only [Act.put, List.setIfInBounds_toArray, List.set_cons_zero, List.set_cons_succ])
                  refine take_call (i := 10) rfl (by kernel_rfl) (by rfl) (fun K hK => ?_)
                  go_simp
                  refine (least_at (h := h) (L := L) (r := (l : Int)) _ _ (by simp [*]) HF.out.1).mono ?_
                  rintro e w6 ⟨rfl, hs6, hf6⟩
                  obtain ⟨ka1, ka2⟩ := frame_step (w := wy) (p := ⟨B, O + k, none⟩) (by assumption) (by assumption) hf6 hnB (by first | exact .inl rfl | exact .inr rfl)
                  obtain ⟨ka3, ka4⟩ := frame_step (w := wy) (p := ⟨B2, O2, none⟩) (by assumption) (by assumption) hf6 hnB2 (by first | exact .inl rfl | exact .inr rfl)
                  obtain ⟨ka5, ka6⟩ := frame_step (w := wy) (p := ⟨B2, O2 + (j - 1), none⟩) (by assumption) (by assumption) hf6 hnB2 (by first | exact .inl rfl | exact .inr rfl)
                  go_wp2_with fail
                  refine hK.out _ _ (by go_keep) (fun hHeld => ?_)
                  clear hK K
                  (try simp only [Act.put, List.setIfInBounds_toArray, List.set_cons_zero, List.set_cons_succ])
                  refine take_on (i := 17) (v := ?_) rfl (by kernel_rfl) (by kernel_rfl) (by kernel_rfl) (by rfl) (by assumption) ?_ (fun _ _ _ h => h) ?_
                  rotate_left
                  · intro w' hSw; (try dsimp only at hSw); go_simp; (try with_reducible rfl)
                  (try simp only [Act.put, List.setIfInBounds_toArray, List.set_cons_zero, List.set_cons_succ])
                  refine take_on (i := 18) (v := ?_) rfl (by kernel_rfl) (by kernel_rfl) (by kernel_rfl) (by rfl) (by assumption) ?_ (fun _ _ _ h => h) ?_
                  rotate_left
                  · intro w' hSw; (try dsimp only at hSw); go_simp; (try with_reducible rfl)
                  (try simp only [Act.put, List.setIfInBounds_toArray, List.set_cons_zero, List.set_cons_succ])
                  refine take_on (i := 19) (v := ?_) rfl (by kernel_rfl) (by kernel_rfl) (by kernel_rfl) (by rfl) (by assumption) ?_ (fun _ _ _ h => h) ?_
                  rotate_left
                  · intro w' hSw; (try dsimp only at hSw); go_simp; (try with_reducible rfl)
                  (try simp only [Act.put, List.setIfInBounds_toArray, List.set_cons_zero, List.set_cons_succ])
                  refine take_on (i := 20) (v := ?_) rfl (by kernel_rfl) (by kernel_rfl) (by kernel_rfl) (by rfl) (by assumption) ?_ (fun _ _ _ h => h) ?_
                  rotate_left
                  · intro w' hSw; (try dsimp only at hSw); go_simp; (try with_reducible rfl)
                  (try simp only [Act.put, List.setIfInBounds_toArray, List.set_cons_zero, List.set_cons_succ])
                  refine take_on (i := 21) (v := ?_) rfl (by kernel_rfl) (by kernel_rfl) (by kernel_rfl) (by rfl) (by assumption) ?_ (fun _ _ _ h => h) ?_
                  rotate_left
                  · intro w' hSw; (try dsimp only at hSw); go_simp; (try with_reducible rfl)
                  (try simp only [Act.put, List.setIfInBounds_toArray, List.set_cons_zero, List.set_cons_succ])
                  refine take_on (i := 22) (v := ?_) rfl (by kernel_rfl) (by kernel_rfl) (by kernel_rfl) (by rfl) (by assumption) ?_ (fun _ _ _ h => h) ?_
                  rotate_left
                  · intro w' hSw; (try dsimp only at hSw); go_simp; (try with_reducible rfl)
                  (try simp only [Act.put, List.setIfInBounds_toArray, List.set_cons_zero, List.set_cons_succ])
                  refine take_on (i := 23) (v := ?_) rfl (by kernel_rfl) (by kernel_rfl) (by kernel_rfl) (by rfl) (by assumption) ?_ (fun _ _ _ h => h) ?_
                  rotate_left
                  · intro w' hSw; (try dsimp only at hSw); go_simp; (try with_reducible rfl)
                  (try simp only [Act.put, List.setIfInBounds_toArray, List.set_cons_zero, List.set_cons_succ])
                  refine take_on (i := 24) (v := ?_) rfl (by kernel_rfl) (by kernel_rfl) (by kernel_rfl) (by rfl) (by assumption) ?_ (fun _ _ _ h => h) ?_
                  rotate_left
                  · intro w' hSw; (try dsimp only at hSw); go_simp; (try with_reducible rfl)
                  (try simp only [Act.put, List.setIfInBounds_toArray, List.set_cons_zero, List.set_cons_succ])
                  refine take_on (i := 25) (v := ?_) rfl (by kernel_rfl) (by kernel_rfl) (by kernel_rfl) (by rfl) (by assumption) ?_ (fun _ _ _ h => h) ?_
                  rotate_left
                  · intro w' hSw; (try dsimp only at hSw); go_simp; (try with_reducible rfl)
                  (try simp only [Act.put, List.setIfInBounds_toArray, List.set_cons_zero, List.set_cons_succ])
                  refine take_on (i := 26) (v := ?_) rfl (by kernel_rfl) (by kernel_rfl) (by kernel_rfl) (by rfl) (by assumption) ?_ (fun _ _ _ h => h) ?_
                  rotate_left
                  · intro w' hSw; (try dsimp only at hSw); go_simp; (try with_reducible rfl)
                  (try simp only [Act.put, List.setIfInBounds_toArray, List.set_cons_zero, List.set_cons_succ])
                  refine take_on (i := 27) (v := ?_) rfl (by kernel_rfl) (by kernel_rfl) (by kernel_rfl) (by rfl) (by assumption) ?_ (fun _ _ _ h => h) ?_
                  rotate_left
                  · intro w' hSw; (try dsimp only at hSw); go_simp; (try with_reducible rfl)
                  (try simp only [Act.put, List.setIfInBounds_toArray, List.set_cons_zero, List.set_cons_succ])
                  refine take_call (i := 28) rfl (by kernel_rfl) (by rfl) (fun K hK => ?_)
                  go_simp
                  refine (same_at (h := h) (L := L) (r := true) _ _ _ (by simp [*]) HF.out.2).mono ?_
                  rintro e w7 ⟨rfl, hs7, hf7⟩
                  obtain ⟨kb1, kb2⟩ := frame_step (w := wy) (p := ⟨B, O + k, none⟩) (by assumption) (by assumption) hf7 hnB (by first | exact .inl rfl | exact .inr rfl)
                  obtain ⟨kb3, kb4⟩ := frame_step (w := wy) (p := ⟨B2, O2, none⟩) (by assumption) (by assumption) hf7 hnB2 (by first | exact .inl rfl | exact .inr rfl)
                  obtain ⟨kb5, kb6⟩ := frame_step (w := wy) (p := ⟨B2, O2 + (j - 1), none⟩) (by assumption) (by assumption) hf7 hnB2 (by first | exact .inl rfl | exact .inr rfl)
                  go_wp2_with fail
                  refine hK.out _ _ (by go_keep) (fun hHeld => ?_)
                  clear hK K
                  (try simp only [Act.put, List.setIfInBounds_toArray, List.set_cons_zero, List.set_cons_succ])
                  refine take_on (i := 29) (v := ?_) rfl (by kernel_rfl) (by kernel_rfl) (by kernel_rfl) (by rfl) (by assumption) ?_ (fun _ _ _ h => h) ?_
                  rotate_left
                  · intro w' hSw; (try dsimp only at hSw); go_simp; (try with_reducible rfl)
                  (try simp only [Act.put, List.setIfInBounds_toArray, List.set_cons_zero, List.set_cons_succ])
                  refine take_on (i := 30) (v := ?_) rfl (by kernel_rfl) (by kernel_rfl) (by kernel_rfl) (by rfl) (by assumption) ?_ (fun _ _ _ h => h) ?_
                  rotate_left
                  · intro w' hSw; (try dsimp only at hSw); go_simp; (try with_reducible rfl)
                  (try simp only [Act.put, List.setIfInBounds_toArray, List.set_cons_zero, List.set_cons_succ])
                  refine take_on (i := 31) (v := ?_) rfl (by kernel_rfl) (by kernel_rfl) (by kernel_rfl) (by rfl) (by assumption) ?_ (fun _ _ _ h => h) ?_
                  rotate_left
                  · intro w' hSw; (try dsimp only at hSw); go_simp; (try with_reducible rfl)
                  (try simp only [Act.put, List.setIfInBounds_toArray, List.set_cons_zero, List.set_cons_succ])
                  refine take_on (i := 32) (v := ?_) rfl (by kernel_rfl) (by kernel_rfl) (by kernel_rfl) (by rfl) (by assumption) ?_ (fun _ _ _ h => h) ?_
                  rotate_left
                  · intro w' hSw; (try dsimp only at hSw); go_simp; (try with_reducible rfl)
                  (try simp only [Act.put, List.setIfInBounds_toArray, List.set_cons_zero, List.set_cons_succ])
                  refine take_on (i := 33) (v := ?_) rfl (by kernel_rfl) (by kernel_rfl) (by kernel_rfl) (by rfl) (by assumption) ?_ (fun _ _ _ h => h) ?_
                  rotate_left
                  · intro w' hSw; (try dsimp only at hSw); go_simp; (try with_reducible rfl)
                  (try simp only [Act.put, List.setIfInBounds_toArray, List.set_cons_zero, List.set_cons_succ])
                  refine take_on (i := 34) (v := ?_) rfl (by kernel_rfl) (by kernel_rfl) (by kernel_rfl) (by rfl) (by assumption) ?_ (fun _ _ _ h => h) ?_
                  rotate_left
                  · intro w' hSw; (try dsimp only at hSw); go_simp; (try with_reducible rfl)
                  (try simp only [Act.put, List.setIfInBounds_toArray, List.set_cons_zero, List.set_cons_succ])
                  refine take_on (i := 35) (v := ?_) rfl (by kernel_rfl) (by kernel_rfl) (by kernel_rfl) (by rfl) (by assumption) ?_ (fun _ _ _ h => h) ?_
                  rotate_left
                  · intro w' hSw; (try dsimp only at hSw); go_simp; (try with_reducible rfl)
                  (try simp only [Act.put, List.setIfInBounds_toArray, List.set_cons_zero, List.set_cons_succ])
                  refine take_on (i := 36) (v := ?_) rfl (by kernel_rfl) (by kernel_rfl) (by kernel_rfl) (by rfl) (by assumption) ?_ (fun _ _ _ h => h) ?_
                  rotate_left
                  · intro w' hSw; (try dsimp only at hSw); go_simp; (try with_reducible rfl)
                  (try simp only [Act.put, List.setIfInBounds_toArray, List.set_cons_zero, List.set_cons_succ])
                  refine take_on (i := 37) (v := ?_) rfl (by kernel_rfl) (by kernel_rfl) (by kernel_rfl) (by rfl) (by assumption) ?_ (fun _ _ _ h => h) ?_
                  rotate_left
                  · intro w' hSw; (try dsimp only at hSw); go_simp; (try with_reducible rfl)
                  (try simp only [Act.put, List.setIfInBounds_toArray, List.set_cons_zero, List.set_cons_succ])
                  refine take_on (i := 38) (v := ?_) rfl (by kernel_rfl) (by kernel_rfl) (by kernel_rfl) (by rfl) (by assumption) ?_ (fun _ _ _ h => h) ?_
                  rotate_left
                  · intro w' hSw; (try dsimp only at hSw); go_simp; (try with_reducible rfl)
                  (try simp only [Act.put, List.setIfInBounds_toArray, List.set_cons_zero, List.set_cons_succ])
                  refine take_on (i := 39) (v := ?_) rfl (by kernel_rfl) (by kernel_rfl) (by kernel_rfl) (by rfl) (by assumption) ?_ (fun _ _ _ h => h) ?_
                  rotate_left
                  · intro w' hSw; (try dsimp only at hSw); go_simp; (try with_reducible rfl)
                  (try simp only [Act.put, List.setIfInBounds_toArray, List.set_cons_zero, List.set_cons_succ])
                  refine take_on (i := 40) (v := ?_) rfl (by kernel_rfl) (by kernel_rfl) (by kernel_rfl) (by rfl) (by assumption) ?_ (fun _ _ _ h => h) ?_
                  rotate_left
                  · intro w' hSw; (try dsimp only at hSw); go_simp; (try with_reducible rfl)
                  (try simp only [Act.put, List.setIfInBounds_toArray, List.set_cons_zero, List.set_cons_succ])
                  refine take_on (i := 41) (v := ?_) rfl (by kernel_rfl) (by kernel_rfl) (by kernel_rfl) (by rfl) (by assumption) ?_ (fun _ _ _ h => h) ?_
                  rotate_left
                  · intro w' hSw; (try dsimp only at hSw); go_simp; (try with_reducible rfl)
                  (try simp only [Act.put, List.setIfInBounds_toArray, List.set_cons_zero, List.set_cons_succ])
                  refine take_on (i := 42) (v := ?_) rfl (by kernel_rfl) (by kernel_rfl) (by kernel_rfl) (by rfl) (by assumption) ?_ (fun _ _ _ h => h) ?_
                  rotate_left
                  · intro w' hSw; (try dsimp only at hSw); go_simp; (try with_reducible rfl)
                  (try simp only [Act.put, List.setIfInBounds_toArray, List.set_cons_zero, List.set_cons_succ])
                  refine take_on (i := 43) (v := ?_) rfl (by kernel_rfl) (by kernel_rfl) (by kernel_rfl) (by rfl) (by assumption) ?_ (fun _ _ _ h => h) ?_
                  rotate_left
                  · intro w' hSw; (try dsimp only at hSw); go_simp; (try with_reducible rfl)
                  (try simp only [Act.put, List.setIfInBounds_toArray, List.set_cons_zero, List.set_cons_succ])
                  refine take_on (i := 44) (v := ?_) rfl (by kernel_rfl) (by kernel_rfl) (by kernel_rfl) (by rfl) (by assumption) ?_ (fun _ _ _ h => h) ?_
                  rotate_left
                  · intro w' hSw; (try dsimp only at hSw); go_simp; (try with_reducible rfl)
                  (try simp only [Act.put, List.setIfInBounds_toArray, List.set_cons_zero, List.set_cons_succ])
                  refine take_on (i := 45) (v := ?_) rfl (by kernel_rfl) (by kernel_rfl) (by kernel_rfl) (by rfl) (by assumption) ?_ (fun _ _ _ h => h) ?_
                  rotate_left
                  · intro w' hSw; (try dsimp only at hSw); go_simp; (try with_reducible rfl)
                  (try simp only [Act.put, List.setIfInBounds_toArray, List.set_cons_zero, List.set_cons_succ])
                  refine take_on (i := 46) (v := ?_) rfl (by kernel_rfl) (by kernel_rfl) (by kernel_rfl) (by rfl) (by assumption) ?_ (fun _ _ _ h => h) ?_
                  rotate_left
                  · intro w' hSw; (try dsimp only at hSw); go_simp; (try with_reducible rfl)
                  (try simp only [Act.put, List.setIfInBounds_toArray, List.set_cons_zero, List.set_cons_succ])
                  refine wpAnyH_done (by kernel_rfl) ?_ _
                  all_goals go_wp2
                  all_goals go_meet
                  all_goals exact ⟨rfl, rfl, by simp [*], by simp [*]⟩
              case rest =>
                obtain ⟨rfl, rfl, hs9, hf9⟩ := hcut
                have hY9 := HY.out.1.step hs9 hf9
                have g1 : wc.cell? ⟨gS, v, none⟩ = some (.int .i64 0) := (hY9.k.cell v).trans (ints_at HN.out)
                have g2 : wc.frozen? ⟨gS, v, none⟩ = false := hY9.k.frozen v
                have hY10 := hY9.put hvm hgw
                have H10 := Lib.hid hY10
                have gv1 : (0 : Int) ≤ (v : Int) := by omega
                have gv2 : (v : Int) < (m : Int) := by omega
                clear hs9 hf9 hY9 hY10 hd0 hrow0 hdj
                go_wp2
                go_roundw
                case rel =>
                  refine ⟨j + 1, by go_num, hjl, ?_⟩
                  rw [List.take_add_one, HY.out.2.1, ← List.append_assoc]
                  exact H10.out
                case measure => simp [intOf]; omega
            · obtain rfl : j = rl := by omega
              have hYe := hY
              rw [List.take_of_length_le (by have := Hrl.out; omega), ← seenTo_succ HX.out.2.1] at hYe
              have HY := Lib.hid (And.intro hYe hds)
              clear hY hYe hds
              generalize wr = wy at *
              have ip1 : decide ((0 : Int) < (k : Int)) = decide (0 < k) := by simp
              go_upto_region 24 with fail
              go_cut [161] (fun s161 wx => s161 = .bool false ∧ SetsAt wx h L ∧ Fr h.own wy wx)
              case first =>
                rcases Nat.eq_zero_or_pos k with hk0 | hk0
                · subst hk0
                  refine wp_region_held_drew (S := fun _ => True) (by kernel_rfl) (by trivial) (fun hHeld => ?_)
                  refine take_on (i := 0) (v := ?_) rfl (by kernel_rfl) (by kernel_rfl) (by kernel_rfl) (by rfl) (by assumption) ?_ (fun _ _ _ h => h) ?_
                  rotate_left
                  · intro w' hSw; (try dsimp only at hSw); go_simp; (try with_reducible rfl)
                  (try simp only [Act.put, List.setIfInBounds_toArray, List.set_cons_zero, List.set_cons_succ])
                  refine take_on (i := 1) (v := ?_) rfl (by kernel_rfl) (by kernel_rfl) (by kernel_rfl) (by rfl) (by assumption) ?_ (fun _ _ _ h => h) ?_
                  rotate_left
                  · intro w' hSw; (try dsimp only at hSw); go_simp; (try with_reducible rfl)
                  (try simp only [Act.put, List.setIfInBounds_toArray, List.set_cons_zero, List.set_cons_succ])
                  refine take_on (i := 2) (v := ?_) rfl (by kernel_rfl) (by kernel_rfl) (by kernel_rfl) (by rfl) (by assumption) ?_ (fun _ _ _ h => h) ?_
                  rotate_left
                  · intro w' hSw; (try dsimp only at hSw); go_simp; (try with_reducible rfl)
                  (try simp only [Act.put, List.setIfInBounds_toArray, List.set_cons_zero, List.set_cons_succ])
                  refine take_off (i := 3) rfl (by kernel_rfl) (by kernel_rfl) (by kernel_rfl) (by rfl) (by assumption) (fun _ _ _ h => h) ?_
                  (try simp only [Act.put, List.setIfInBounds_toArray, List.set_cons_zero, List.set_cons_succ])
                  refine take_off (i := 4) rfl (by kernel_rfl) (by kernel_rfl) (by kernel_rfl) (by rfl) (by assumption) (fun _ _ _ h => h) ?_
                  (try simp only [Act.put, List.setIfInBounds_toArray, List.set_cons_zero, List.set_cons_succ])
                  refine take_off (i := 5) rfl (by kernel_rfl) (by kernel_rfl) (by kernel_rfl) (by rfl) (by assumption) (fun _ _ _ h => h) ?_
                  (try simp only [Act.put, List.setIfInBounds_toArray, List.set_cons_zero, List.set_cons_succ])
                  refine take_off (i := 6) rfl (by kernel_rfl) (by kernel_rfl) (by kernel_rfl) (by rfl) (by assumption) (fun _ _ _ h => h) ?_
                  (try simp only [Act.put, List.setIfInBounds_toArray, List.set_cons_zero, List.set_cons_succ])
                  refine take_off (i := 7) rfl (by kernel_rfl) (by kernel_rfl) (by kernel_rfl) (by rfl) (by assumption) (fun _ _ _ h => h) ?_
                  (try simp only [Act.put, List.setIfInBounds_toArray, List.set_cons_zero, List.set_cons_succ])
                  refine take_off (i := 8) rfl (by kernel_rfl) (by kernel_rfl) (by kernel_rfl) (by rfl) (by assumption) (fun _ _ _ h => h) ?_
                  (try simp only [Act.put, List.setIfInBounds_toArray, List.set_cons_zero, List.set_cons_succ])
                  refine take_off (i := 9) rfl (by kernel_rfl) (by kernel_rfl) (by kernel_rfl) (by rfl) (by assumption) (fun _ _ _ h => h) ?_
                  (try simp only [Act.put, List.setIfInBounds_toArray, List.set_cons_zero, List.set_cons_succ])
                  refine take_off (i := 10) rfl (by kernel_rfl) (by kernel_rfl) (by kernel_rfl) (by rfl) (by assumption) (fun _ _ _ h => h) ?_
                  (try simp only [Act.put, List.setIfInBounds_toArray, List.set_cons_zero, List.set_cons_succ])
                  refine take_off (i := 11) rfl (by kernel_rfl) (by kernel_rfl) (by kernel_rfl) (by rfl) (by assumption) (fun _ _ _ h => h) ?_
                  (try simp only [Act.put, List.setIfInBounds_toArray, List.set_cons_zero, List.set_cons_succ])
                  refine take_off (i := 12) rfl (by kernel_rfl) (by kernel_rfl) (by kernel_rfl) (by rfl) (by assumption) (fun _ _ _ h => h) ?_
                  (try simp only [Act.put, List.setIfInBounds_toArray, List.set_cons_zero, List.set_cons_succ])
                  refine take_off (i := 13) rfl (by kernel_rfl) (by kernel_rfl) (by kernel_rfl) (by rfl) (by assumption) (fun _ _ _ h => h) ?_
                  (try simp only [Act.put, List.setIfInBounds_toArray, List.set_cons_zero, List.set_cons_succ])
                  refine take_off (i := 14) rfl (by kernel_rfl) (by kernel_rfl) (by kernel_rfl) (by rfl) (by assumption) (fun _ _ _ h => h) ?_
                  (try simp only [Act.put, List.setIfInBounds_toArray, List.set_cons_zero, List.set_cons_succ])
                  refine take_off (i := 15) rfl (by kernel_rfl) (by kernel_rfl) (by kernel_rfl) (by rfl) (by assumption) (fun _ _ _ h => h) ?_
                  (try simp only [Act.put, List.setIfInBounds_toArray, List.set_cons_zero, List.set_cons_succ])
                  refine take_off (i := 16) rfl (by kernel_rfl) (by kernel_rfl) (by kernel_rfl) (by rfl) (by assumption) (fun _ _ _ h => h) ?_
                  (try simp only [Act.put, List.setIfInBounds_toArray, List.set_cons_zero, List.set_cons_succ])
                  refine take_off (i := 17) rfl (by kernel_rfl) (by kernel_rfl) (by kernel_rfl) (by rfl) (by assumption) (fun _ _ _ h => h) ?_
                  (try simp only [Act.put, List.setIfInBounds_toArray, List.set_cons_zero, List.set_cons_succ])
                  refine take_off (i := 18) rfl (by kernel_rfl) (by kernel_rfl) (by kernel_rfl) (by rfl) (by assumption) (fun _ _ _ h => h) ?_
                  (try simp only [Act.put, List.setIfInBounds_toArray, List.set_cons_zero, List.set_cons_succ])
                  refine take_off (i := 19) rfl (by kernel_rfl) (by kernel_rfl) (by kernel_rfl) (by rfl) (by assumption) (fun _ _ _ h => h) ?_
                  (try simp only [Act.put, List.setIfInBounds_toArray, List.set_cons_zero, List.set_cons_succ])
                  refine take_off (i := 20) rfl (by kernel_rfl) (by kernel_rfl) (by kernel_rfl) (by rfl) (by assumption) (fun _ _ _ h => h) ?_
                  (try simp only [Act.put, List.setIfInBounds_toArray, List.set_cons_zero, List.set_cons_succ])
                  refine take_off (i := 21) rfl (by kernel_rfl) (by kernel_rfl) (by kernel_rfl) (by rfl) (by assumption) (fun _ _ _ h => h) ?_
                  (try simp only [Act.put, List.setIfInBounds_toArray, List.set_cons_zero, List.set_cons_succ])
                  refine take_off (i := 22) rfl (by kernel_rfl) (by kernel_rfl) (by kernel_rfl) (by rfl) (by assumption) (fun _ _ _ h => h) ?_
                  (try simp only [Act.put, List.setIfInBounds_toArray, List.set_cons_zero, List.set_cons_succ])
                  refine take_off (i := 23) rfl (by kernel_rfl) (by kernel_rfl) (by kernel_rfl) (by rfl) (by assumption) (fun _ _ _ h => h) ?_
                  (try simp only [Act.put, List.setIfInBounds_toArray, List.set_cons_zero, List.set_cons_succ])
                  refine take_off (i := 24) rfl (by kernel_rfl) (by kernel_rfl) (by kernel_rfl) (by rfl) (by assumption) (fun _ _ _ h => h) ?_
                  (try simp only [Act.put, List.setIfInBounds_toArray, List.set_cons_zero, List.set_cons_succ])
                  refine take_off (i := 25) rfl (by kernel_rfl) (by kernel_rfl) (by kernel_rfl) (by rfl) (by assumption) (fun _ _ _ h => h) ?_
                  (try simp only [Act.put, List.setIfInBounds_toArray, List.set_cons_zero, List.set_cons_succ])
                  refine take_off (i := 26) rfl (by kernel_rfl) (by kernel_rfl) (by kernel_rfl) (by rfl) (by assumption) (fun _ _ _ h => h) ?_
                  (try simp only [Act.put, List.setIfInBounds_toArray, List.set_cons_zero, List.set_cons_succ])
                  refine take_off (i := 27) rfl (by kernel_rfl) (by kernel_rfl) (by kernel_rfl) (by rfl) (by assumption) (fun _ _ _ h => h) ?_
                  (try simp only [Act.put, List.setIfInBounds_toArray, List.set_cons_zero, List.set_cons_succ])
                  refine take_off (i := 28) rfl (by kernel_rfl) (by kernel_rfl) (by kernel_rfl) (by rfl) (by assumption) (fun _ _ _ h => h) ?_
                  (try simp only [Act.put, List.setIfInBounds_toArray, List.set_cons_zero, List.set_cons_succ])
                  refine take_off (i := 29) rfl (by kernel_rfl) (by kernel_rfl) (by kernel_rfl) (by rfl) (by assumption) (fun _ _ _ h => h) ?_
                  (try simp only [Act.put, List.setIfInBounds_toArray, List.set_cons_zero, List.set_cons_succ])
                  refine take_off (i := 30) rfl (by kernel_rfl) (by kernel_rfl) (by kernel_rfl) (by rfl) (by assumption) (fun _ _ _ h => h) ?_
                  (try simp only [Act.put, List.setIfInBounds_toArray, List.set_cons_zero, List.set_cons_succ])
                  refine take_off (i := 31) rfl (by kernel_rfl) (by kernel_rfl) (by kernel_rfl) (by rfl) (by assumption) (fun _ _ _ h => h) ?_
                  (try simp only [Act.put, List.setIfInBounds_toArray, List.set_cons_zero, List.set_cons_succ])
                  refine take_off (i := 32) rfl (by kernel_rfl) (by kernel_rfl) (by kernel_rfl) (by rfl) (by assumption) (fun _ _ _ h => h) ?_
                  (try simp only [Act.put, List.setIfInBounds_toArray, List.set_cons_zero, List.set_cons_succ])
                  refine take_off (i := 33) rfl (by kernel_rfl) (by kernel_rfl) (by kernel_rfl) (by rfl) (by assumption) (fun _ _ _ h => h) ?_
                  (try simp only [Act.put, List.setIfInBounds_toArray, List.set_cons_zero, List.set_cons_succ])
                  refine take_on (i := 34) (v := ?_) rfl (by kernel_rfl) (by kernel_rfl) (by kernel_rfl) (by rfl) (by assumption) ?_ (fun _ _ _ h => h) ?_
                  rotate_left
                  · intro w' hSw; (try dsimp only at hSw); go_simp; (try with_reducible rfl)
                  (try simp only [Act.put, List.setIfInBounds_toArray, List.set_cons_zero, List.set_cons_succ])
                  refine wpAnyH_done (by kernel_rfl) ?_ _

                  all_goals go_wp2
                  all_goals go_meet
                  all_goals exact ⟨rfl, by simp [*], by simp [*]⟩
                · obtain ⟨r3, hr3⟩ : ∃ r3, (groups L)[k - 1]? = some r3 := ⟨_, List.getElem?_eq_getElem (by have := Hgn.out; omega)⟩
                  obtain ⟨l3, hl31, hl32, hl33, hl34⟩ := group_fact Hc.out.1 hr3
                  have hr30 : 0 < r3.length := (List.getElem?_eq_some_iff.1 hl33).1
                  obtain ⟨_, _, B3, O3, c3, e, _, hnB3, hq0, hqs⟩ := HY.out.1.row Hgn.out hr3 hr30
                  injection e with e
                  injection e with e1 e2
                  subst e1
                  subst e2
                  have hq1 := hqs 0 l3 hl33
                  rw [Nat.add_zero] at hq1
                  have hup : l3 < l := keys_up (show k - 1 < k by omega) hl31 HX.out.2.2.1
                  have hsf : sameB L (l3 : Int) (l : Int) = false := by
                    have e1 : of_ L (l3 : Int) = some l3 := by unfold of_; rw [if_pos (by omega), Int.toNat_natCast]; exact hl34
                    have e2 : of_ L (l : Int) = some l := by unfold of_; rw [if_pos (by omega), Int.toNat_natCast]; exact HX.out.2.2.2.2.2
                    simp [sameB, e1, e2]
                    omega
                  have HF := Lib.hid hsf
                  clear hsf hqs hl31 hl32 hl33 hl34 hr3
                  generalize r3.length = rl3 at *
                  have te1 : decide ((0 : Int) < (k : Int)) = true := by simp; omega
                  have te4 : decide (0 < k) = true := by simp; omega
                  have te3 : decide ((l : Int) ≤ (l3 : Int)) = false := by simp; omega
                  have te5 : decide (l ≤ l3) = false := by simp; omega
                  have te6 : decide ((l3 : Int) ≥ (l : Int)) = false := by simp; omega
                  have iw1 : IntKind.i64.wrap ((k : Int) - 1) = (k : Int) - 1 := IntWalk.i64_in _ (by omega)
                  have iw2 : (0 : Int) ≤ (k : Int) - 1 := by omega
                  have iw5 : (1 : Int) ≤ (k : Int) := by omega
                  have iw3 : (k : Int) - 1 < (gn : Int) := by omega
                  have iw4 : ((k : Int) - 1).toNat = k - 1 := by omega
                  clear ip1
                  refine wp_region_held_drew (S := fun w' => w'.cell? ⟨B, O + k, none⟩ = some (.slice (some ⟨B2, O2, none⟩) j c2) ∧ w'.cell? ⟨B2, O2, none⟩ = some (.int .i64 (l : Int)) ∧ w'.cell? ⟨B, O + (k - 1), none⟩ = some (.slice (some ⟨B3, O3, none⟩) rl3 c3) ∧ w'.cell? ⟨B3, O3, none⟩ = some (.int .i64 (l3 : Int)) ∧ SetsAt w' h L ∧ Fr h.own wy w') (by kernel_rfl) (by go_keep) (fun hHeld => ?_)
                  refine take_on (i := 0) (v := ?_) rfl (by kernel_rfl) (by kernel_rfl) (by kernel_rfl) (by rfl) (by assumption) ?_ (fun _ _ _ h => h) ?_
                  rotate_left
                  · intro w' hSw; (try dsimp only at hSw); go_simp; (try with_reducible rfl)
                  (try simp only [Act.put, List.setIfInBounds_toArray, List.set_cons_zero, List.set_cons_succ])
                  refine take_on (i := 1) (v := ?_) rfl (by kernel_rfl) (by kernel_rfl) (by kernel_rfl) (by rfl) (by assumption) ?_ (fun _ _ _ h => h) ?_
                  rotate_left
                  · intro w' hSw; (try dsimp only at hSw); go_simp; (try with_reducible rfl)
                  (try simp only [Act.put, List.setIfInBounds_toArray, List.set_cons_zero, List.set_cons_succ])
                  refine take_on (i := 2) (v := ?_) rfl (by kernel_rfl) (by kernel_rfl) (by kernel_rfl) (by rfl) (by assumption) ?_ (fun _ _ _ h => h) ?_
                  rotate_left
                  · intro w' hSw; (try dsimp only at hSw); go_simp; (try with_reducible rfl)
                  (try simp only [Act.put, List.setIfInBounds_toArray, List.set_cons_zero, List.set_cons_succ])
                  refine take_on (i := 3) (v := ?_) rfl (by kernel_rfl) (by kernel_rfl) (by kernel_rfl) (by rfl) (by assumption) ?_ (fun _ _ _ h => h) ?_
                  rotate_left
                  · intro w' hSw; (try dsimp only at hSw); go_simp; (try with_reducible rfl)
                  (try simp only [Act.put, List.setIfInBounds_toArray, List.set_cons_zero, List.set_cons_succ])
                  refine take_on (i := 4) (v := ?_) rfl (by kernel_rfl) (by kernel_rfl) (by kernel_rfl) (by rfl) (by assumption) ?_ (fun _ _ _ h => h) ?_
                  rotate_left
                  · intro w' hSw; (try dsimp only at hSw); go_simp; (try with_reducible rfl)
                  (try simp only [Act.put, List.setIfInBounds_toArray, List.set_cons_zero, List.set_cons_succ])
                  refine take_on (i := 5) (v := ?_) rfl (by kernel_rfl) (by kernel_rfl) (by kernel_rfl) (by rfl) (by assumption) ?_ (fun _ _ _ h => h) ?_
                  rotate_left
                  · intro w' hSw; (try dsimp only at hSw); go_simp; (try with_reducible rfl)
                  (try simp only [Act.put, List.setIfInBounds_toArray, List.set_cons_zero, List.set_cons_succ])
                  refine take_on (i := 6) (v := ?_) rfl (by kernel_rfl) (by kernel_rfl) (by kernel_rfl) (by rfl) (by assumption) ?_ (fun _ _ _ h => h) ?_
                  rotate_left
                  · intro w' hSw; (try dsimp only at hSw); go_simp; (try with_reducible rfl)
                  (try simp only [Act.put, List.setIfInBounds_toArray, List.set_cons_zero, List.set_cons_succ])
                  refine take_on (i := 7) (v := ?_) rfl (by kernel_rfl) (by kernel_rfl) (by kernel_rfl) (by rfl) (by assumption) ?_ (fun _ _ _ h => h) ?_
                  rotate_left
                  · intro w' hSw; (try dsimp only at hSw); go_simp; (try with_reducible rfl)
                  (try simp only [Act.put, List.setIfInBounds_toArray, List.set_cons_zero, List.set_cons_succ])
                  refine take_on (i := 8) (v := ?_) rfl (by kernel_rfl) (by kernel_rfl) (by kernel_rfl) (by rfl) (by assumption) ?_ (fun _ _ _ h => h) ?_
                  rotate_left
                  · intro w' hSw; (try dsimp only at hSw); go_simp; (try with_reducible rfl)
                  (try simp only [Act.put, List.setIfInBounds_toArray, List.set_cons_zero, List.set_cons_succ])
                  refine take_on (i := 9) (v := ?_) rfl (by kernel_rfl) (by kernel_rfl) (by kernel_rfl) (by rfl) (by assumption) ?_ (fun _ _ _ h => h) ?_
                  rotate_left
                  · intro w' hSw; (try dsimp only at hSw); go_simp; (try with_reducible rfl)
                  (try simp only [Act.put, List.setIfInBounds_toArray, List.set_cons_zero, List.set_cons_succ])
                  refine take_on (i := 10) (v := ?_) rfl (by kernel_rfl) (by kernel_rfl) (by kernel_rfl) (by rfl) (by assumption) ?_ (fun _ _ _ h => h) ?_
                  rotate_left
                  · intro w' hSw; (try dsimp only at hSw); go_simp; (try with_reducible rfl)
                  (try simp only [Act.put, List.setIfInBounds_toArray, List.set_cons_zero, List.set_cons_succ])
                  refine take_on (i := 11) (v := ?_) rfl (by kernel_rfl) (by kernel_rfl) (by kernel_rfl) (by rfl) (by assumption) ?_ (fun _ _ _ h => h) ?_
                  rotate_left
                  · intro w' hSw; (try dsimp only at hSw); go_simp; (try with_reducible rfl)
                  (try simp only [Act.put, List.setIfInBounds_toArray, List.set_cons_zero, List.set_cons_succ])
                  refine take_on (i := 12) (v := ?_) rfl (by kernel_rfl) (by kernel_rfl) (by kernel_rfl) (by rfl) (by assumption) ?_ (fun _ _ _ h => h) ?_
                  rotate_left
                  · intro w' hSw; (try dsimp only at hSw); go_simp; (try with_reducible rfl)
                  (try simp only [Act.put, List.setIfInBounds_toArray, List.set_cons_zero, List.set_cons_succ])
                  refine take_on (i := 13) (v := ?_) rfl (by kernel_rfl) (by kernel_rfl) (by kernel_rfl) (by rfl) (by assumption) ?_ (fun _ _ _ h => h) ?_
                  rotate_left
                  · intro w' hSw; (try dsimp only at hSw); go_simp; (try with_reducible rfl)
                  (try simp only [Act.put, List.setIfInBounds_toArray, List.set_cons_zero, List.set_cons_succ])
                  refine take_on (i := 14) (v := ?_) rfl (by kernel_rfl) (by kernel_rfl) (by kernel_rfl) (by rfl) (by assumption) ?_ (fun _ _ _ h => h) ?_
                  rotate_left
                  · intro w' hSw; (try dsimp only at hSw); go_simp; (try with_reducible rfl)
                  (try simp only [Act.put, List.setIfInBounds_toArray, List.set_cons_zero, List.set_cons_succ])
                  refine take_on (i := 15) (v := ?_) rfl (by kernel_rfl) (by kernel_rfl) (by kernel_rfl) (by rfl) (by assumption) ?_ (fun _ _ _ h => h) ?_
                  rotate_left
                  · intro w' hSw; (try dsimp only at hSw); go_simp; (try with_reducible rfl)
                  (try simp only [Act.put, List.setIfInBounds_toArray, List.set_cons_zero, List.set_cons_succ])
                  refine take_on (i := 16) (v := ?_) rfl (by kernel_rfl) (by kernel_rfl) (by kernel_rfl) (by rfl) (by assumption) ?_ (fun _ _ _ h => h) ?_
                  rotate_left
                  · intro w' hSw; (try dsimp only at hSw); go_simp; (try with_reducible rfl)
                  (try simp only [Act.put, List.setIfInBounds_toArray, List.set_cons_zero, List.set_cons_succ])
                  refine take_on (i := 17) (v := ?_) rfl (by kernel_rfl) (by kernel_rfl) (by kernel_rfl) (by rfl) (by assumption) ?_ (fun _ _ _ h => h) ?_
                  rotate_left
                  · intro w' hSw; (try dsimp only at hSw); go_simp; (try with_reducible rfl)
                  (try simp only [Act.put, List.setIfInBounds_toArray, List.set_cons_zero, List.set_cons_succ])
                  refine take_on (i := 18) (v := ?_) rfl (by kernel_rfl) (by kernel_rfl) (by kernel_rfl) (by rfl) (by assumption) ?_ (fun _ _ _ h => h) ?_
                  rotate_left
                  · intro w' hSw; (try dsimp only at hSw); go_simp; (try with_reducible rfl)
                  (try simp only [Act.put, List.setIfInBounds_toArray, List.set_cons_zero, List.set_cons_succ])
                  refine take_on (i := 19) (v := ?_) rfl (by kernel_rfl) (by kernel_rfl) (by kernel_rfl) (by rfl) (by assumption) ?_ (fun _ _ _ h => h) ?_
                  rotate_left
                  · intro w' hSw; (try dsimp only at hSw); go_simp; (try with_reducible rfl)
                  (try simp only [Act.put, List.setIfInBounds_toArray, List.set_cons_zero, List.set_cons_succ])
                  refine take_on (i := 20) (v := ?_) rfl (by kernel_rfl) (by kernel_rfl) (by kernel_rfl) (by rfl) (by assumption) ?_ (fun _ _ _ h => h) ?_
                  rotate_left
                  · intro w' hSw; (try dsimp only at hSw); go_simp; (try with_reducible rfl)
                  (try simp only [Act.put, List.setIfInBounds_toArray, List.set_cons_zero, List.set_cons_succ])
                  refine take_on (i := 21) (v := ?_) rfl (by kernel_rfl) (by kernel_rfl) (by kernel_rfl) (by rfl) (by assumption) ?_ (fun _ _ _ h => h) ?_
                  rotate_left
                  · intro w' hSw; (try dsimp only at hSw); go_simp; (try with_reducible rfl)
                  (try simp only [Act.put, List.setIfInBounds_toArray, List.set_cons_zero, List.set_cons_succ])
                  refine take_on (i := 22) (v := ?_) rfl (by kernel_rfl) (by kernel_rfl) (by kernel_rfl) (by rfl) (by assumption) ?_ (fun _ _ _ h => h) ?_
                  rotate_left
                  · intro w' hSw; (try dsimp only at hSw); go_simp; (try with_reducible rfl)
                  (try simp only [Act.put, List.setIfInBounds_toArray, List.set_cons_zero, List.set_cons_succ])
                  refine take_on (i := 23) (v := ?_) rfl (by kernel_rfl) (by kernel_rfl) (by kernel_rfl) (by rfl) (by assumption) ?_ (fun _ _ _ h => h) ?_
                  rotate_left
                  · intro w' hSw; (try dsimp only at hSw); go_simp; (try with_reducible rfl)
                  (try simp only [Act.put, List.setIfInBounds_toArray, List.set_cons_zero, List.set_cons_succ])
                  refine take_on (i := 24) (v := ?_) rfl (by kernel_rfl) (by kernel_rfl) (by kernel_rfl) (by rfl) (by assumption) ?_ (fun _ _ _ h => h) ?_
                  rotate_left
                  · intro w' hSw; (try dsimp only at hSw); go_simp; (try with_reducible rfl)
                  (try simp only [Act.put, List.setIfInBounds_toArray, List.set_cons_zero, List.set_cons_succ])
                  refine take_on (i := 25) (v := ?_) rfl (by kernel_rfl) (by kernel_rfl) (by kernel_rfl) (by rfl) (by assumption) ?_ (fun _ _ _ h => h) ?_
                  rotate_left
                  · intro w' hSw; (try dsimp only at hSw); go_simp; (try with_reducible rfl)
                  (try simp only [Act.put, List.setIfInBounds_toArray, List.set_cons_zero, List.set_cons_succ])
                  refine take_on (i := 26) (v := ?_) rfl (by kernel_rfl) (by kernel_rfl) (by kernel_rfl) (by rfl) (by assumption) ?_ (fun _ _ _ h => h) ?_
                  rotate_left
                  · intro w' hSw; (try dsimp only at hSw); go_simp; (try with_reducible rfl)
                  (try simp only [Act.put, List.setIfInBounds_toArray, List.set_cons_zero, List.set_cons_succ])
                  refine take_on (i := 27) (v := ?_) rfl (by kernel_rfl) (by kernel_rfl) (by kernel_rfl) (by rfl) (by assumption) ?_ (fun _ _ _ h => h) ?_
                  rotate_left
                  · intro w' hSw; (try dsimp only at hSw); go_simp; (try with_reducible rfl)
                  (try simp only [Act.put, List.setIfInBounds_toArray, List.set_cons_zero, List.set_cons_succ])
                  refine take_on (i := 28) (v := ?_) rfl (by kernel_rfl) (by kernel_rfl) (by kernel_rfl) (by rfl) (by assumption) ?_ (fun _ _ _ h => h) ?_
                  rotate_left
                  · intro w' hSw; (try dsimp only at hSw); go_simp; (try with_reducible rfl)
                  (try simp only [Act.put, List.setIfInBounds_toArray, List.set_cons_zero, List.set_cons_succ])
                  refine take_on (i := 29) (v := ?_) rfl (by kernel_rfl) (by kernel_rfl) (by kernel_rfl) (by rfl) (by assumption) ?_ (fun _ _ _ h => h) ?_
                  rotate_left
                  · intro w' hSw; (try dsimp only at hSw); go_simp; (try with_reducible rfl)
                  (try simp only [Act.put, List.setIfInBounds_toArray, List.set_cons_zero, List.set_cons_succ])
                  refine take_on (i := 30) (v := ?_) rfl (by kernel_rfl) (by kernel_rfl) (by kernel_rfl) (by rfl) (by assumption) ?_ (fun _ _ _ h => h) ?_
                  rotate_left
                  · intro w' hSw; (try dsimp only at hSw); go_simp; (try with_reducible rfl)
                  (try simp only [Act.put, List.setIfInBounds_toArray, List.set_cons_zero, List.set_cons_succ])
                  refine take_on (i := 31) (v := ?_) rfl (by kernel_rfl) (by kernel_rfl) (by kernel_rfl) (by rfl) (by assumption) ?_ (fun _ _ _ h => h) ?_
                  rotate_left
                  · intro w' hSw; (try dsimp only at hSw); go_simp; (try with_reducible rfl)
                  (try simp only [Act.put, List.setIfInBounds_toArray, List.set_cons_zero, List.set_cons_succ])
                  refine take_call (i := 32) rfl (by kernel_rfl) (by rfl) (fun K hK => ?_)
                  go_simp
                  refine (same_at (h := h) (L := L) (r := false) _ _ _ (by simp [*]) HF.out).mono ?_
                  rintro e w7 ⟨rfl, hs7, hf7⟩
                  obtain ⟨kb1, kb2⟩ := frame_step (w := wy) (p := ⟨B, O + k, none⟩) (by assumption) (by assumption) hf7 hnB (by first | exact .inl rfl | exact .inr rfl)
                  obtain ⟨kb3, kb4⟩ := frame_step (w := wy) (p := ⟨B2, O2, none⟩) (by assumption) (by assumption) hf7 hnB2 (by first | exact .inl rfl | exact .inr rfl)
                  obtain ⟨kb5, kb6⟩ := frame_step (w := wy) (p := ⟨B, O + (k - 1), none⟩) (by assumption) (by assumption) hf7 hnB (by first | exact .inl rfl | exact .inr rfl)
                  obtain ⟨kb7, kb8⟩ := frame_step (w := wy) (p := ⟨B3, O3, none⟩) (by assumption) (by assumption) hf7 hnB3 (by first | exact .inl rfl | exact .inr rfl)
                  go_wp2_with fail
                  refine hK.out _ _ (by go_keep) (fun hHeld => ?_)
                  clear hK K
                  (try simp only [Act.put, List.setIfInBounds_toArray, List.set_cons_zero, List.set_cons_succ])
                  refine take_on (i := 33) (v := ?_) rfl (by kernel_rfl) (by kernel_rfl) (by kernel_rfl) (by rfl) (by assumption) ?_ (fun _ _ _ h => h) ?_
                  rotate_left
                  · intro w' hSw; (try dsimp only at hSw); go_simp; (try with_reducible rfl)
                  (try simp only [Act.put, List.setIfInBounds_toArray, List.set_cons_zero, List.set_cons_succ])
                  refine take_on (i := 34) (v := ?_) rfl (by kernel_rfl) (by kernel_rfl) (by kernel_rfl) (by rfl) (by assumption) ?_ (fun _ _ _ h => h) ?_
                  rotate_left
                  · intro w' hSw; (try dsimp only at hSw); go_simp; (try with_reducible rfl)
                  (try simp only [Act.put, List.setIfInBounds_toArray, List.set_cons_zero, List.set_cons_succ])
                  refine wpAnyH_done (by kernel_rfl) ?_ _

                  all_goals go_wp2
                  all_goals go_meet
                  all_goals exact ⟨rfl, by simp [*], by simp [*]⟩
              case rest =>
                obtain ⟨rfl, hs9, hf9⟩ := hcut
                have H10 := Lib.hid (HY.out.1.step hs9 hf9)
                clear hs9 hf9 hd0 hrow0
                go_wp2
                go_roundw
                case rel => exact ⟨k + 1, by go_num, hlt, H10.out⟩
                case measure => simp [intOf]; omega
        · obtain rfl : k = gn := by omega
          have HY := Lib.hid hX
          clear hX
          have hgl : ((k : Int) == (left : Int)) = true := by
            have h1 := roots_groups L
            rw [groupsI_len', Hgn.out, Hleft.out] at h1
            simp [h1]
          have HGL := Lib.hid hgl
          clear hgl
          have hm1 : ∀ v : Nat, v < m → (mark m (seenTo L k))[v]? = some 1 := fun v hv => by
            have h1 := mark_full Hc.out.1 (v := v) (by rw [Hc.out.2]; exact hv)
            rw [Hgn.out, Hc.out.2] at h1
            exact h1
          have HM1 := Lib.hid hm1
          clear hm1
          generalize wr = wy at *
          go_wp2_with fail
          go_loopw [15] (fun u wz => ∃ v : Nat, u = .int .i64 v ∧ v ≤ m ∧ wz = wy)
            (fun u _ => m - (intOf u).toNat)
          case atStart => exact ⟨0, rfl, Nat.zero_le _, rfl⟩
          case round =>
            obtain ⟨v, rfl, hv, rfl⟩ := hrel
            by_cases hvm : v < m
            · have g1 : wr.cell? ⟨gS, v, none⟩ = some (.int .i64 1) := (HY.out.k.cell v).trans (ints_at (HM1.out v hvm))
              have gv1 : (0 : Int) ≤ (v : Int) := by omega
              have gv2 : (v : Int) < (m : Int) := by omega
              go_wp2
              go_roundw
              case rel => exact ⟨v + 1, by go_num, hvm, trivial⟩
              case measure => simp [intOf]; omega
            · have hgl := HGL.out
              go_wp2_with fail
              refine (known_yes _).mono ?_
              rintro e w7 ⟨rfl, hb7⟩
              have H7 := Lib.hid (And.intro (HY.out.s.below hb7) (below_step HY.out.bl hb7 HY.out.bl.size))
              clear hb7
              go_wp2_with fail
              refine (many_at (h := h) (L := L) (r := (left : Int)) _ H7.out.1 (by rw [Hleft.out])).mono ?_
              rintro e w8 ⟨rfl, rfl⟩
              go_wp2_with fail
              go_ret
              exact ⟨rfl, H7.out.2⟩
end Go.Proofs.Ytogbdilbbofdiaa
