/-
  unite: Join and Same.
-/
import Derived.Test.YtogbdilbbofdiaaUnA
namespace Go.Proofs.Ytogbdilbbofdiaa
open Go.RowKit

theorem Fr.own_of {S : Nat → Prop} {h : At} {w w' : World} (hf : Fr S w w') (hS : ∀ k, S k → h.own k) : Fr h.own w w' := hf.mono fun k _ e => hS k e

theorem joinB_left {L : List Nat} {a b : Int} (h : of_ L a = none) : joinB L a b = false ∧ joinL L a b = L := by simp [joinB, joinL, h]
theorem joinB_right {L : List Nat} {a b : Int} (h : of_ L b = none) : joinB L a b = false ∧ joinL L a b = L := by
  cases e : of_ L a <;> simp [joinB, joinL, h, e]
theorem map_self {L : List Nat} {x : Nat} : L.map (mix x x) = L := by
  have : ∀ n, mix x x n = n := fun n => by unfold mix; split <;> omega
  conv => rhs; rw [← List.map_id L]
  exact List.map_congr_left fun n _ => this n
theorem joinB_same {L : List Nat} {a b : Int} {x : Nat} (h : of_ L a = some x) (h' : of_ L b = some x) : joinB L a b = false ∧ joinL L a b = L := by
  simp [joinB, joinL, h, h', map_self]
theorem joinB_two {L : List Nat} {a b : Int} {x y : Nat} (h : of_ L a = some x) (h' : of_ L b = some y) (hne : x ≠ y) : joinB L a b = true ∧ joinL L a b = L.map (mix x y) := by
  simp [joinB, joinL, h, h', hne]

theorem joined {h : At} {L up least : List Nat} {many : List Int} {left K : Nat} {g rk : Nat → Nat} {w wc : World} {i j lx ly x y m : Nat} (v : Int)
    (hr : Raw wc h L.length up many least left) (hf : Forest L.length up g rk K) (hd : Data L least g left) (hi : L[i]? = some lx) (hj : L[j]? = some ly) (hne : lx ≠ ly)
    (hxy : (x = g i ∧ y = g j) ∨ (x = g j ∧ y = g i)) (hm : m = min lx ly) (hfr : Fr (· = h.u) w wc) :
    SetsAt (((((wc.setCell ⟨h.u, y, none⟩ (.int .i64 (x : Int))).setCell ⟨h.m, x, none⟩ (.int .i64 v)).setCell ⟨h.l, x, none⟩ (.int .i64 (m : Int))).setCell ⟨h.p, 3, none⟩ (.int .i64 ((left : Int) - 1))).drew.drew) h (L.map (mix lx ly)) ∧
    Fr h.own w (((((wc.setCell ⟨h.u, y, none⟩ (.int .i64 (x : Int))).setCell ⟨h.m, x, none⟩ (.int .i64 v)).setCell ⟨h.l, x, none⟩ (.int .i64 (m : Int))).setCell ⟨h.p, 3, none⟩ (.int .i64 ((left : Int) - 1))).drew.drew) := by
  have hin : i < L.length := (List.getElem?_eq_some_iff.1 hi).1
  have hjn : j < L.length := (List.getElem?_eq_some_iff.1 hj).1
  have hgi := hf.glt i hin
  have hgj := hf.glt j hjn
  have lgx := hd.least i lx hi
  have lgy := hd.least j ly hj
  have hgne : g i ≠ g j := fun e => hne (by rw [e] at lgx; rw [lgx] at lgy; exact Option.some.inj lgy)
  refine ⟨?_, (((((hfr.own_of (fun k e => .inr (.inl e))).setCell (.inl (.inr (.inl rfl))) _).setCell (.inl (.inr (.inr (.inl rfl)))) _).setCell (.inl (.inr (.inr (.inr rfl)))) _).setCell (.inl (.inl rfl)) _).drew.drew⟩
  have key : ∃ g', Forest L.length (up.set y x) g' (fun i => if g i = x then rk i + K + 1 else rk i) (2 * K + 1) ∧ Data (L.map (mix lx ly)) (least.set x (min lx ly)) g' (left - 1) ∧ 1 ≤ left := by
    rcases hxy with ⟨rfl, rfl⟩ | ⟨rfl, rfl⟩
    · exact ⟨_, hf.union hgi hgj (hf.gg hin) (hf.gg hjn) hgne, hd.union hi hj hne rfl rfl (by rw [hr.ll]; exact hgi)⟩
    · have hd' := hd.union hj hi hne.symm rfl rfl (by rw [hr.ll]; exact hgj)
      refine ⟨_, hf.union hgj hgi (hf.gg hjn) (hf.gg hin) hgne.symm, ?_, hd'.2⟩
      have e : L.map (mix lx ly) = L.map (mix ly lx) := List.map_congr_left fun n _ => mix_comm lx ly n
      rw [e, Nat.min_comm lx ly]
      exact hd'.1
  obtain ⟨g', k1, k2, k3⟩ := key
  subst hm
  have e : ((left : Int) - 1) = ((left - 1 : Nat) : Int) := by omega
  rw [e]
  have h1 := ((((hr.setU y x).setM x v).setL x (min lx ly)).setLeft (left - 1)).drew.drew
  rw [← List.length_map (mix lx ly)] at h1 k1
  exact ⟨_, _, _, _, g', _, _, h1, k1, k2⟩

theorem roots_le (L : List Nat) : roots L ≤ L.length := by
  unfold roots
  exact Nat.le_trans List.countP_le_length (by simp)

set_option maxRecDepth 100000 in
set_option maxHeartbeats 1600000 in
theorem join_two {h : At} {L : List Nat} (i j lx ly : Nat) (w : World) (hs : SetsAt w h L) (hi : L[i]? = some lx) (hj : L[j]? = some ly) (hne : lx ≠ ly) :
    Calls Try.prog 10 #[.pointer (some ⟨h.p, 0, none⟩), .int .i64 (i : Int), .int .i64 (j : Int)] w fun e w' => e = .returned (.bool true) ∧ SetsAt w' h (L.map (mix lx ly)) ∧ Fr h.own w w' := by
  obtain ⟨up, least, many, left, g, rk, K, hr, hf, hd⟩ := hs
  have hin : i < L.length := (List.getElem?_eq_some_iff.1 hi).1
  have hjn : j < L.length := (List.getElem?_eq_some_iff.1 hj).1
  have HA := Lib.hid (has_yes i w hr hin)
  have HB := Lib.hid (has_yes j w hr hjn)
  have lgx := hd.least i lx hi
  have lgy := hd.least j ly hj
  have hgne : g i ≠ g j := fun e => hne (by rw [e] at lgx; rw [lgx] at lgy; exact Option.some.inj lgy)
  have hb : ((g i : Int) == (g j : Int)) = false := by simp; omega
  have hgi := hf.glt i hin
  have hgj := hf.glt j hjn
  obtain ⟨mx, hmx⟩ : ∃ m, many[g i]? = some m := ⟨_, List.getElem?_eq_getElem (by have := hr.lm; omega)⟩
  obtain ⟨my, hmy⟩ : ∃ m, many[g j]? = some m := ⟨_, List.getElem?_eq_getElem (by have := hr.lm; omega)⟩
  have hsm := hr.small
  have hleft1 : 1 ≤ left := (hd.union hi hj hne rfl rfl (by rw [hr.ll]; exact hgi)).2
  have hleft2 : left ≤ 1000 := by have := hd.left; have := roots_le L; omega
  have HD := Lib.hid (And.intro hr (And.intro hf hd))
  have HI := Lib.hid (And.intro hi (And.intro hj (And.intro lgx lgy)))
  have HM := Lib.hid (And.intro hmx hmy)
  clear hr hf hd hi hj lgx lgy hmx hmy
  generalize hn : L.length = n at *
  have Hn := Lib.hid hn
  clear hn
  go_enter Try.func10, Try.ntmps10
  go_wp2_with fail
  refine HA.out.mono ?_
  rintro e w' ⟨rfl, rfl⟩
  go_wp2_with fail
  refine HB.out.mono ?_
  rintro e w' ⟨rfl, rfl⟩
  go_wp2_with fail
  refine (head_any h n up least many left g rk K i _ HD.out.1 HD.out.2.1 hin).mono ?_
  rintro e w1 ⟨up1, rfl, hr1, hf1, hfr1⟩
  have H1 := Lib.hid (And.intro hr1 (And.intro hf1 hfr1))
  clear hr1 hf1 hfr1
  go_wp2_with fail
  refine (head_any h n up1 least many left g rk K j _ H1.out.1 H1.out.2.1 hjn).mono ?_
  rintro e w2 ⟨up2, rfl, hr2, hf2, hfr2⟩
  have c1 : w2.cell? ⟨h.p, 1, none⟩ = some (.slice (some ⟨h.m, 0, none⟩) n n) := hr2.p.cell 1
  have c2 : w2.cell? ⟨h.m, g i, none⟩ = some (.int .i64 mx) := (hr2.m.cell _).trans (ints_at HM.out.1)
  have c3 : w2.cell? ⟨h.m, g j, none⟩ = some (.int .i64 my) := (hr2.m.cell _).trans (ints_at HM.out.2)
  have H2 := Lib.hid (And.intro hr2 (And.intro hf2 (Fr.trans H1.out.2.2 hfr2)))
  clear hr2 hf2 hfr2
  go_wp2_with fail
  go_quiet (fail)
  go_upto_if 42 with fail
  go_cut [7, 8] (fun s7 s8 wx => ∃ x y : Nat, s7 = .int .i64 (x : Int) ∧ s8 = .int .i64 (y : Int) ∧ ((x = g i ∧ y = g j) ∨ (x = g j ∧ y = g i)) ∧ Raw wx h n up2 many least left ∧ Fr (· = h.u) w wx)
  case first =>
    go_wp2
    all_goals go_meet
    · exact ⟨g j, g i, rfl, rfl, .inr ⟨rfl, rfl⟩, H2.out.1.drewN _, H2.out.2.2.drewN _⟩
    · exact ⟨g i, g j, rfl, rfl, .inl ⟨rfl, rfl⟩, H2.out.1.drewN _, H2.out.2.2.drewN _⟩
  case rest =>
    obtain ⟨x, y, rfl, rfl, hxy, hr, hfr⟩ := hcut
    have hxn : x < n := by rcases hxy with ⟨rfl, rfl⟩ | ⟨rfl, rfl⟩ <;> assumption
    have hyn : y < n := by rcases hxy with ⟨rfl, rfl⟩ | ⟨rfl, rfl⟩ <;> assumption
    have hxyne : x ≠ y := by rcases hxy with ⟨rfl, rfl⟩ | ⟨rfl, rfl⟩; exact hgne; exact hgne.symm
    obtain ⟨lX, lY, hlX, hlY, hlm⟩ : ∃ lX lY, least[x]? = some lX ∧ least[y]? = some lY ∧ min lX lY = min lx ly := by
      obtain ⟨_, _, h1, h2⟩ := HI.out
      rcases hxy with ⟨rfl, rfl⟩ | ⟨rfl, rfl⟩
      · exact ⟨_, _, h1, h2, rfl⟩
      · exact ⟨_, _, h2, h1, Nat.min_comm _ _⟩
    obtain ⟨p, hp⟩ : ∃ m, many[x]? = some m := ⟨_, List.getElem?_eq_getElem (by have := hr.lm; omega)⟩
    obtain ⟨q, hq⟩ : ∃ m, many[y]? = some m := ⟨_, List.getElem?_eq_getElem (by have := hr.lm; omega)⟩
    obtain ⟨u0, hu0⟩ : ∃ m, up2[y]? = some m := ⟨_, List.getElem?_eq_getElem (by have := H2.out.2.1.len; omega)⟩
    have hpu := hr.pu
    have hpm := hr.pm
    have hpl := hr.pl
    have hum := hr.um
    have hul := hr.ul
    have hml := hr.ml
    have d0 : wc.cell? ⟨h.p, 0, none⟩ = some (.slice (some ⟨h.u, 0, none⟩) n n) := hr.p.cell 0
    have d1 : wc.cell? ⟨h.p, 1, none⟩ = some (.slice (some ⟨h.m, 0, none⟩) n n) := hr.p.cell 1
    have d2 : wc.cell? ⟨h.p, 2, none⟩ = some (.slice (some ⟨h.l, 0, none⟩) n n) := hr.p.cell 2
    have d3 : wc.cell? ⟨h.p, 3, none⟩ = some (.int .i64 (left : Int)) := hr.p.cell 3
    have e0 : wc.cell? ⟨h.u, y, none⟩ = some (.int .i64 (u0 : Int)) := (hr.u.cell _).trans (nats_at hu0)
    have e1 : wc.cell? ⟨h.m, x, none⟩ = some (.int .i64 p) := (hr.m.cell _).trans (ints_at hp)
    have e2 : wc.cell? ⟨h.m, y, none⟩ = some (.int .i64 q) := (hr.m.cell _).trans (ints_at hq)
    have e3 : wc.cell? ⟨h.l, x, none⟩ = some (.int .i64 (lX : Int)) := (hr.l.cell _).trans (nats_at hlX)
    have e4 : wc.cell? ⟨h.l, y, none⟩ = some (.int .i64 (lY : Int)) := (hr.l.cell _).trans (nats_at hlY)
    have f0 : wc.frozen? ⟨h.u, y, none⟩ = false := hr.u.frozen _
    have f1 : wc.frozen? ⟨h.m, x, none⟩ = false := hr.m.frozen _
    have f2 : wc.frozen? ⟨h.l, x, none⟩ = false := hr.l.frozen _
    have f3 : wc.frozen? ⟨h.p, 3, none⟩ = false := hr.p.frozen _
    have HR := Lib.hid (And.intro hr hfr)
    have HX := Lib.hid (And.intro hxy (And.intro hlX (And.intro hlY hlm)))
    clear hr hfr hxy hlX hlY hlm hp hq hu0 c1 c2 c3 hb
    go_wp2
    go_region
    go_wp2
    go_region
    go_wp2
    all_goals go_ret
    all_goals
      obtain rfl := Hn.out
      obtain ⟨h1, h2, h3, h4⟩ := HX.out
      refine ⟨rfl, joined _ HR.out.1 H2.out.2.1 HD.out.2.2 HI.out.1 HI.out.2.1 hne h1 ?_ HR.out.2⟩
      rw [← h4]
      omega

theorem join_same {h : At} {L : List Nat} (i j l : Nat) (w : World) (hs : SetsAt w h L) (hi : L[i]? = some l) (hj : L[j]? = some l) :
    Calls Try.prog 10 #[.pointer (some ⟨h.p, 0, none⟩), .int .i64 (i : Int), .int .i64 (j : Int)] w fun e w' => e = .returned (.bool false) ∧ SetsAt w' h L ∧ Fr h.own w w' := by
  obtain ⟨up, least, many, left, g, rk, K, hr, hf, hd⟩ := hs
  have hin : i < L.length := (List.getElem?_eq_some_iff.1 hi).1
  have hjn : j < L.length := (List.getElem?_eq_some_iff.1 hj).1
  have HA := Lib.hid (has_yes i w hr hin)
  have HB := Lib.hid (has_yes j w hr hjn)
  have hgne : g i = g j := hd.same i j l hi hj
  have hb : ((g i : Int) == (g j : Int)) = true := by simp [hgne]
  have HD := Lib.hid (And.intro hr (And.intro hf hd))
  clear hr hf hd hi hj hgne
  generalize hn : L.length = n at *
  have Hn := Lib.hid hn
  clear hn
  go_enter Try.func10, Try.ntmps10
  go_wp2_with fail
  refine HA.out.mono ?_
  rintro e w' ⟨rfl, rfl⟩
  go_wp2_with fail
  refine HB.out.mono ?_
  rintro e w' ⟨rfl, rfl⟩
  go_wp2_with fail
  refine (head_any h n up least many left g rk K i _ HD.out.1 HD.out.2.1 hin).mono ?_
  rintro e w1 ⟨up1, rfl, hr1, hf1, hfr1⟩
  have H1 := Lib.hid (And.intro hr1 (And.intro hf1 hfr1))
  clear hr1 hf1 hfr1
  go_wp2_with fail
  refine (head_any h n up1 least many left g rk K j _ H1.out.1 H1.out.2.1 hjn).mono ?_
  rintro e w2 ⟨up2, rfl, hr2, hf2, hfr2⟩
  have H2 := Lib.hid (And.intro hr2 (And.intro hf2 (Fr.trans H1.out.2.2 hfr2)))
  clear hr2 hf2 hfr2
  go_wp2_with fail
  go_ret
  obtain rfl := Hn.out
  exact ⟨rfl, ⟨_, _, _, _, g, rk, K, H2.out.1, H2.out.2.1, HD.out.2.2⟩, H2.out.2.2.own_u⟩

theorem join_no_left {h : At} {L : List Nat} (a b : Int) (w : World) (hs : SetsAt w h L) (ha : of_ L a = none) :
    Calls Try.prog 10 #[.pointer (some ⟨h.p, 0, none⟩), .int .i64 a, .int .i64 b] w fun e w' => e = .returned (.bool false) ∧ w = w' := by
  obtain ⟨up, least, many, left, g, rk, K, hr, hf, hd⟩ := hs
  have HA := Lib.hid (has_no a w hr (of_none ha))
  clear hr hf hd ha
  go_enter Try.func10, Try.ntmps10
  go_wp2_with fail
  refine HA.out.mono ?_
  rintro e w' ⟨rfl, rfl⟩
  go_wp2_with fail
  go_ret
  exact ⟨rfl, rfl⟩
theorem join_no_right {h : At} {L : List Nat} (i : Nat) (b : Int) (w : World) (hs : SetsAt w h L) (hi : i < L.length) (hb : of_ L b = none) :
    Calls Try.prog 10 #[.pointer (some ⟨h.p, 0, none⟩), .int .i64 (i : Int), .int .i64 b] w fun e w' => e = .returned (.bool false) ∧ w = w' := by
  obtain ⟨up, least, many, left, g, rk, K, hr, hf, hd⟩ := hs
  have HA := Lib.hid (has_yes i w hr hi)
  have HB := Lib.hid (has_no b w hr (of_none hb))
  clear hr hf hd hi hb
  go_enter Try.func10, Try.ntmps10
  go_wp2_with fail
  refine HA.out.mono ?_
  rintro e w' ⟨rfl, rfl⟩
  go_wp2_with fail
  refine HB.out.mono ?_
  rintro e w' ⟨rfl, rfl⟩
  go_wp2_with fail
  go_ret
  exact ⟨rfl, rfl⟩

/-- Join, whatever numbers: as the plain joinB, joinL. -/
theorem join_any {h : At} {L : List Nat} (a b : Int) (w : World) (hs : SetsAt w h L) :
    Calls Try.prog 10 #[.pointer (some ⟨h.p, 0, none⟩), .int .i64 a, .int .i64 b] w fun e w' => e = .returned (.bool (joinB L a b)) ∧ SetsAt w' h (joinL L a b) ∧ Fr h.own w w' := by
  cases ha : of_ L a with
  | none =>
    rw [(joinB_left ha).1, (joinB_left ha).2]
    exact (join_no_left a b w hs ha).mono fun e w' ⟨h1, h2⟩ => ⟨h1, h2 ▸ hs, h2 ▸ Fr.refl _ _⟩
  | some lx =>
    obtain ⟨i, rfl, hin, hi⟩ := of_some ha
    cases hb : of_ L b with
    | none =>
      rw [(joinB_right hb).1, (joinB_right hb).2]
      exact (join_no_right i b w hs hin hb).mono fun e w' ⟨h1, h2⟩ => ⟨h1, h2 ▸ hs, h2 ▸ Fr.refl _ _⟩
    | some ly =>
      obtain ⟨j, rfl, hjn, hj⟩ := of_some hb
      by_cases hne : lx = ly
      · subst hne
        rw [(joinB_same ha hb).1, (joinB_same ha hb).2]
        exact join_same i j lx w hs hi hj
      · rw [(joinB_two ha hb hne).1, (joinB_two ha hb hne).2]
        exact join_two i j lx ly w hs hi hj hne

/-- The same for no Sets. -/
theorem join_nil (a b : Int) (w : World) :
    Calls Try.prog 10 #[.pointer none, .int .i64 a, .int .i64 b] w fun e w' => e = .returned (.bool false) ∧ w = w' := by
  go_enter Try.func10, Try.ntmps10
  go_wp2_with fail
  refine (has_nil a w).mono ?_
  rintro e w' ⟨rfl, rfl⟩
  go_wp2_with fail
  go_ret
  exact ⟨rfl, rfl⟩

def sameB (L : List Nat) (a b : Int) : Bool := match of_ L a, of_ L b with
  | some x, some y => x == y
  | _, _ => false

theorem same_two {h : At} {L : List Nat} (i j lx ly : Nat) (w : World) (hs : SetsAt w h L) (hi : L[i]? = some lx) (hj : L[j]? = some ly) :
    Calls Try.prog 17 #[.pointer (some ⟨h.p, 0, none⟩), .int .i64 (i : Int), .int .i64 (j : Int)] w fun e w' => e = .returned (.bool (lx == ly)) ∧ SetsAt w' h L ∧ Fr h.own w w' := by
  obtain ⟨up, least, many, left, g, rk, K, hr, hf, hd⟩ := hs
  have hin : i < L.length := (List.getElem?_eq_some_iff.1 hi).1
  have hjn : j < L.length := (List.getElem?_eq_some_iff.1 hj).1
  have HA := Lib.hid (has_yes i w hr hin)
  have HB := Lib.hid (has_yes j w hr hjn)
  have hbb : ((g i : Int) == (g j : Int)) = (lx == ly) := by
    by_cases e : lx = ly
    · subst e
      simp [hd.same i j _ hi hj]
    · have h1 := hd.least i lx hi
      have h2 := hd.least j ly hj
      have : g i ≠ g j := fun e' => e (by rw [e'] at h1; rw [h1] at h2; exact Option.some.inj h2)
      have e1 : ((g i : Int) == (g j : Int)) = false := by simp; omega
      rw [e1]; simp [e]
  have Hbb := Lib.hid hbb
  have HD := Lib.hid (And.intro hr (And.intro hf hd))
  clear hr hf hd hi hj hbb
  generalize hn : L.length = n at *
  have Hn := Lib.hid hn
  clear hn
  go_enter Try.func17, Try.ntmps17
  go_wp2_with fail
  refine HA.out.mono ?_
  rintro e w' ⟨rfl, rfl⟩
  go_wp2_with fail
  refine HB.out.mono ?_
  rintro e w' ⟨rfl, rfl⟩
  go_wp2_with fail
  refine (head_any h n up least many left g rk K i _ HD.out.1 HD.out.2.1 hin).mono ?_
  rintro e w1 ⟨up1, rfl, hr1, hf1, hfr1⟩
  have H1 := Lib.hid (And.intro hr1 (And.intro hf1 hfr1))
  clear hr1 hf1 hfr1
  go_wp2_with fail
  refine (head_any h n up1 least many left g rk K j _ H1.out.1 H1.out.2.1 hjn).mono ?_
  rintro e w2 ⟨up2, rfl, hr2, hf2, hfr2⟩
  have H2 := Lib.hid (And.intro hr2 (And.intro hf2 (Fr.trans H1.out.2.2 hfr2)))
  clear hr2 hf2 hfr2
  go_wp2_with fail
  go_ret
  obtain rfl := Hn.out
  exact ⟨ret_bool Hbb.out, ⟨_, _, _, _, g, rk, K, H2.out.1, H2.out.2.1, HD.out.2.2⟩, H2.out.2.2.own_u⟩
theorem same_no_left {h : At} {L : List Nat} (a b : Int) (w : World) (hs : SetsAt w h L) (ha : of_ L a = none) :
    Calls Try.prog 17 #[.pointer (some ⟨h.p, 0, none⟩), .int .i64 a, .int .i64 b] w fun e w' => e = .returned (.bool false) ∧ w = w' := by
  obtain ⟨up, least, many, left, g, rk, K, hr, hf, hd⟩ := hs
  have HA := Lib.hid (has_no a w hr (of_none ha))
  clear hr hf hd ha
  go_enter Try.func17, Try.ntmps17
  go_wp2_with fail
  refine HA.out.mono ?_
  rintro e w' ⟨rfl, rfl⟩
  go_wp2_with fail
  go_ret
  exact ⟨rfl, rfl⟩
theorem same_no_right {h : At} {L : List Nat} (i : Nat) (b : Int) (w : World) (hs : SetsAt w h L) (hi : i < L.length) (hb : of_ L b = none) :
    Calls Try.prog 17 #[.pointer (some ⟨h.p, 0, none⟩), .int .i64 (i : Int), .int .i64 b] w fun e w' => e = .returned (.bool false) ∧ w = w' := by
  obtain ⟨up, least, many, left, g, rk, K, hr, hf, hd⟩ := hs
  have HA := Lib.hid (has_yes i w hr hi)
  have HB := Lib.hid (has_no b w hr (of_none hb))
  clear hr hf hd hi hb
  go_enter Try.func17, Try.ntmps17
  go_wp2_with fail
  refine HA.out.mono ?_
  rintro e w' ⟨rfl, rfl⟩
  go_wp2_with fail
  refine HB.out.mono ?_
  rintro e w' ⟨rfl, rfl⟩
  go_wp2_with fail
  go_ret
  exact ⟨rfl, rfl⟩
theorem same_any {h : At} {L : List Nat} (a b : Int) (w : World) (hs : SetsAt w h L) :
    Calls Try.prog 17 #[.pointer (some ⟨h.p, 0, none⟩), .int .i64 a, .int .i64 b] w fun e w' => e = .returned (.bool (sameB L a b)) ∧ SetsAt w' h L ∧ Fr h.own w w' := by
  cases ha : of_ L a with
  | none =>
    rw [show sameB L a b = false by simp [sameB, ha]]
    exact (same_no_left a b w hs ha).mono fun e w' ⟨h1, h2⟩ => ⟨h1, h2 ▸ hs, h2 ▸ Fr.refl _ _⟩
  | some lx =>
    obtain ⟨i, rfl, hin, hi⟩ := of_some ha
    cases hb : of_ L b with
    | none =>
      rw [show sameB L (i : Int) b = false by simp [sameB, ha, hb]]
      exact (same_no_right i b w hs hin hb).mono fun e w' ⟨h1, h2⟩ => ⟨h1, h2 ▸ hs, h2 ▸ Fr.refl _ _⟩
    | some ly =>
      obtain ⟨j, rfl, hjn, hj⟩ := of_some hb
      rw [show sameB L (i : Int) (j : Int) = (lx == ly) by simp [sameB, ha, hb]]
      exact same_two i j lx ly w hs hi hj
theorem same_nil (a b : Int) (w : World) :
    Calls Try.prog 17 #[.pointer none, .int .i64 a, .int .i64 b] w fun e w' => e = .returned (.bool false) ∧ w = w' := by
  go_enter Try.func17, Try.ntmps17
  go_wp2_with fail
  refine (has_nil a w).mono ?_
  rintro e w' ⟨rfl, rfl⟩
  go_wp2_with fail
  go_ret
  exact ⟨rfl, rfl⟩

def leastI (L : List Nat) (a : Int) : Int := match of_ L a with
  | some l => l
  | none => -1
theorem least_any {h : At} {L : List Nat} (a : Int) (w : World) (hs : SetsAt w h L) :
    Calls Try.prog 15 #[.pointer (some ⟨h.p, 0, none⟩), .int .i64 a] w fun e w' => e = .returned (.int .i64 (leastI L a)) ∧ SetsAt w' h L ∧ Fr h.own w w' := by
  cases ha : of_ L a with
  | none =>
    rw [show leastI L a = -1 by simp [leastI, ha]]
    exact (least_no a w hs ha).mono fun e w' ⟨h1, h2⟩ => ⟨h1, h2 ▸ hs, h2 ▸ Fr.refl _ _⟩
  | some l =>
    obtain ⟨i, rfl, hin, hi⟩ := of_some ha
    rw [show leastI L (i : Int) = l by simp [leastI, ha]]
    exact least_yes i l w hs hi
end Go.Proofs.Ytogbdilbbofdiaa
