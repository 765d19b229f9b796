/-
  unite: the walks of the methods of Sets.
-/
import Derived.Test.YtogbdilbbofdiaaProg
import Derived.Test.YtogbdilbbofdiaaLib
import Derived.Test.YtogbdilbbofdiaaUnP
import Derived.StillTailTactics
import Derived.Deep.QuietTactic
import Derived.BigQuiet
import Derived.Deep.LoopGhost
import Derived.Deep.RegionWith
import Derived.Deep.RegionHeld3
import Derived.Deep.DeepCutAuto
namespace Go.Proofs.Ytogbdilbbofdiaa
open Go.RowKit

/-- Where a Sets lies: the struct's block, and those of its three lists. -/
structure At where
  p : Nat
  u : Nat
  m : Nat
  l : Nat
/-- The blocks of a Sets. -/
def At.own (h : At) (k : Nat) : Prop := k = h.p ∨ k = h.u ∨ k = h.m ∨ k = h.l

/-- What lies there. -/
structure Raw (w : World) (h : At) (n : Nat) (up : List Nat) (many : List Int) (least : List Nat) (left : Nat) : Prop where
  p : Blk w h.p 40 #[.slice (some ⟨h.u, 0, none⟩) n n, .slice (some ⟨h.m, 0, none⟩) n n, .slice (some ⟨h.l, 0, none⟩) n n, .int .i64 (left : Int)]
  u : Blk w h.u 3 (nats up)
  m : Blk w h.m 3 (ints many)
  l : Blk w h.l 3 (nats least)
  um : h.u ≠ h.m
  ul : h.u ≠ h.l
  ml : h.m ≠ h.l
  lm : many.length = n
  ll : least.length = n
  small : n ≤ 1000

theorem Raw.pu {w : World} {h : At} {n left : Nat} {up least : List Nat} {many : List Int} (r : Raw w h n up many least left) : h.p ≠ h.u := r.p.ne_ r.u (by decide)
theorem Raw.pm {w : World} {h : At} {n left : Nat} {up least : List Nat} {many : List Int} (r : Raw w h n up many least left) : h.p ≠ h.m := r.p.ne_ r.m (by decide)
theorem Raw.pl {w : World} {h : At} {n left : Nat} {up least : List Nat} {many : List Int} (r : Raw w h n up many least left) : h.p ≠ h.l := r.p.ne_ r.l (by decide)

theorem Raw.setU {w : World} {h : At} {n left : Nat} {up least : List Nat} {many : List Int} (r : Raw w h n up many least left) (i k : Nat) : Raw (w.setCell ⟨h.u, i, none⟩ (.int .i64 (k : Int))) h n (up.set i k) many least left :=
  ⟨r.p.far (p := ⟨h.u, i, none⟩) r.pu _, by have := r.u.set_ i (.int .i64 (k : Int)); rwa [nats_set] at this, r.m.far (p := ⟨h.u, i, none⟩) r.um.symm _, r.l.far (p := ⟨h.u, i, none⟩) r.ul.symm _, r.um, r.ul, r.ml, r.lm, r.ll, r.small⟩
theorem Raw.setM {w : World} {h : At} {n left : Nat} {up least : List Nat} {many : List Int} (r : Raw w h n up many least left) (i : Nat) (k : Int) : Raw (w.setCell ⟨h.m, i, none⟩ (.int .i64 k)) h n up (many.set i k) least left :=
  ⟨r.p.far (p := ⟨h.m, i, none⟩) r.pm _, r.u.far (p := ⟨h.m, i, none⟩) r.um _, by have := r.m.set_ i (.int .i64 k); rwa [ints_set] at this, r.l.far (p := ⟨h.m, i, none⟩) r.ml.symm _, r.um, r.ul, r.ml, by simpa using r.lm, r.ll, r.small⟩
theorem Raw.setL {w : World} {h : At} {n left : Nat} {up least : List Nat} {many : List Int} (r : Raw w h n up many least left) (i k : Nat) : Raw (w.setCell ⟨h.l, i, none⟩ (.int .i64 (k : Int))) h n up many (least.set i k) left :=
  ⟨r.p.far (p := ⟨h.l, i, none⟩) r.pl _, r.u.far (p := ⟨h.l, i, none⟩) r.ul _, r.m.far (p := ⟨h.l, i, none⟩) r.ml _, by have := r.l.set_ i (.int .i64 (k : Int)); rwa [nats_set] at this, r.um, r.ul, r.ml, r.lm, by simpa using r.ll, r.small⟩
theorem Raw.setLeft {w : World} {h : At} {n left : Nat} {up least : List Nat} {many : List Int} (r : Raw w h n up many least left) (k : Nat) : Raw (w.setCell ⟨h.p, 3, none⟩ (.int .i64 (k : Int))) h n up many least k :=
  ⟨by have := r.p.set_ 3 (.int .i64 (k : Int)); simpa using this, r.u.far (p := ⟨h.p, 3, none⟩) r.pu.symm _, r.m.far (p := ⟨h.p, 3, none⟩) r.pm.symm _, r.l.far (p := ⟨h.p, 3, none⟩) r.pl.symm _, r.um, r.ul, r.ml, r.lm, r.ll, r.small⟩
theorem Raw.fr {w w' : World} {h : At} {n left : Nat} {up least : List Nat} {many : List Int} {S : Nat → Prop} (r : Raw w h n up many least left) (hf : Fr S w w') (hS : ∀ k, h.own k → ¬ S k) : Raw w' h n up many least left :=
  ⟨r.p.fr hf (hS _ (.inl rfl)), r.u.fr hf (hS _ (.inr (.inl rfl))), r.m.fr hf (hS _ (.inr (.inr (.inl rfl)))), r.l.fr hf (hS _ (.inr (.inr (.inr rfl)))), r.um, r.ul, r.ml, r.lm, r.ll, r.small⟩
theorem Raw.own_lt {w : World} {h : At} {n left : Nat} {up least : List Nat} {many : List Int} (r : Raw w h n up many least left) {k : Nat} (hk : h.own k) : k < w.heap.size := by
  rcases hk with rfl | rfl | rfl | rfl
  · exact r.p.lt
  · exact r.u.lt
  · exact r.m.lt
  · exact r.l.lt
theorem Raw.drewN {w : World} {h : At} {n left : Nat} {up least : List Nat} {many : List Int} (r : Raw w h n up many least left) (k : Nat) : Raw (w.drewN k) h n up many least left := ⟨r.p, r.u, r.m, r.l, r.um, r.ul, r.ml, r.lm, r.ll, r.small⟩
theorem Raw.drew {w : World} {h : At} {n left : Nat} {up least : List Nat} {many : List Int} (r : Raw w h n up many least left) : Raw w.drew h n up many least left := ⟨r.p, r.u, r.m, r.l, r.um, r.ul, r.ml, r.lm, r.ll, r.small⟩

set_option maxHeartbeats 400000 in
theorem head_any (h : At) (n : Nat) (up least : List Nat) (many : List Int) (left : Nat) (g rk : Nat → Nat) (K : Nat) (a : Nat) (w : World)
   (hr : Raw w h n up many least left) (hf : Forest n up g rk K) (ha : a < n) :
    Calls Try.prog 19 #[.pointer (some ⟨h.p, 0, none⟩), .int .i64 a] w fun e w' =>
      ∃ up', e = .returned (.int .i64 (g a)) ∧ Raw w' h n up' many least left ∧ Forest n up' g rk K ∧ Fr (· = h.u) w w' := by
  go_enter Try.func19, Try.ntmps19
  go_wp2
  go_step3
  go_wp2
  go_step3
  go_wp2
  go_loopw [1, 5] (fun x u wr => ∃ (i : Nat) (up' : List Nat), x = .int .i64 i ∧ i < n ∧ Raw wr h n up' many least left ∧ Forest n up' g rk K ∧ Fr (· = h.u) w wr ∧ g i = g a)
    (fun x _ _ => K - rk (intOf x).toNat)
  case atStart => exact ⟨a, up, rfl, ha, hr, hf, Fr.refl _ _, rfl⟩
  case round =>
    obtain ⟨i, up', rfl, hi, hr', hf', hfr, hgi⟩ := hrel
    have hn := hr'.small
    obtain ⟨j, hj⟩ : ∃ j, up'[i]? = some j := ⟨_, List.getElem?_eq_getElem (by have := hf'.len; omega)⟩
    have hjn := hf'.lt i j hj
    obtain ⟨k, hk⟩ : ∃ k, up'[j]? = some k := ⟨_, List.getElem?_eq_getElem (by have := hf'.len; omega)⟩
    have hkn := hf'.lt j k hk
    have c0 : wr.cell? ⟨h.p, 0, none⟩ = some (.slice (some ⟨h.u, 0, none⟩) n n) := (hr'.p.cell 0)
    have c1 : wr.cell? ⟨h.u, i, none⟩ = some (.int .i64 (j : Int)) := (hr'.u.cell i).trans (nats_at hj)
    have c2 : wr.cell? ⟨h.u, j, none⟩ = some (.int .i64 (k : Int)) := (hr'.u.cell j).trans (nats_at hk)
    have f1 : wr.frozen? ⟨h.u, i, none⟩ = false := hr'.u.frozen i
    have hpu := hr'.pu
    have H := Lib.hid (And.intro hr' (And.intro hf' (And.intro hfr hgi)))
    have HJ := Lib.hid (And.intro hj hk)
    clear hr' hf' hfr hgi hj hk hr hf
    by_cases hji : j = i
    · have hb : ((j : Int) == (i : Int)) = true := by simp [hji]
      go_wp2
      rw [Exit.noGoto_ret]
      go_ret
      obtain ⟨hr', hf', hfr, hgi⟩ := H.out
      obtain ⟨hj, hk⟩ := HJ.out
      subst hji
      exact ⟨up', ret_int (by rw [← hgi, hf'.top _ hj]), hr', hf', hfr⟩
    · have hb : ((j : Int) == (i : Int)) = false := by simp; omega
      go_wp2
      go_still_tail 13, (by kernel_rfl)
      go_wp2
      obtain ⟨hr', hf', hfr, hgi⟩ := H.out
      obtain ⟨hj, hk⟩ := HJ.out
      go_roundw
      case rel =>
        exact ⟨k, up'.set i k, rfl, hkn, (hr'.setU i k).drew, hf'.halve hj hk hji, (hfr.setCell (.inl rfl) _).drew, (hf'.keep j k hk).trans ((hf'.keep i j hj).trans hgi)⟩
      case measure =>
        have h1 := hf'.rank i j hj hji
        have h2 := hf'.most k hkn
        have h3 : rk j ≤ rk k := by
          by_cases e : k = j
          · rw [e]; exact Nat.le_refl _
          · exact Nat.le_of_lt (hf'.rank j k hk e)
        simp [intOf]; omega

/-- A Sets that reads as L: of each number the least one of its group. -/
def SetsAt (w : World) (h : At) (L : List Nat) : Prop :=
  ∃ (up least : List Nat) (many : List Int) (left : Nat) (g rk : Nat → Nat) (K : Nat), Raw w h L.length up many least left ∧ Forest L.length up g rk K ∧ Data L least g left

theorem SetsAt.fr {w w' : World} {h : At} {L : List Nat} {S : Nat → Prop} (r : SetsAt w h L) (hf : Fr S w w') (hS : ∀ k, k < w.heap.size → h.own k → ¬ S k) : SetsAt w' h L := by
  obtain ⟨up, least, many, left, g, rk, K, h1, h2, h3⟩ := r
  exact ⟨up, least, many, left, g, rk, K, h1.fr hf (fun k hk => hS k (h1.own_lt hk) hk), h2, h3⟩
theorem SetsAt.own_lt {w : World} {h : At} {L : List Nat} (r : SetsAt w h L) {k : Nat} (hk : h.own k) : k < w.heap.size := by
  obtain ⟨up, least, many, left, g, rk, K, h1, h2, h3⟩ := r
  exact h1.own_lt hk

theorem has_nil (a : Int) (w : World) :
    Calls Try.prog 18 #[.pointer none, .int .i64 a] w fun e w' => e = .returned (.bool false) ∧ w = w' := by
  go_enter Try.func18, Try.ntmps18
  go_wp2
  go_ret
  exact ⟨rfl, rfl⟩

theorem has_yes {h : At} {n left : Nat} {up least : List Nat} {many : List Int} (a : Nat) (w : World) (hr : Raw w h n up many least left) (ha : a < n) :
    Calls Try.prog 18 #[.pointer (some ⟨h.p, 0, none⟩), .int .i64 (a : Int)] w fun e w' => e = .returned (.bool true) ∧ w = w' := by
  have c0 : w.cell? ⟨h.p, 0, none⟩ = some (.slice (some ⟨h.u, 0, none⟩) n n) := hr.p.cell 0
  clear hr
  go_enter Try.func18, Try.ntmps18
  go_wp2
  go_ret
  exact ⟨rfl, rfl⟩
theorem has_no {h : At} {n left : Nat} {up least : List Nat} {many : List Int} (a : Int) (w : World) (hr : Raw w h n up many least left) (ha : a < 0 ∨ n ≤ a) :
    Calls Try.prog 18 #[.pointer (some ⟨h.p, 0, none⟩), .int .i64 a] w fun e w' => e = .returned (.bool false) ∧ w = w' := by
  have c0 : w.cell? ⟨h.p, 0, none⟩ = some (.slice (some ⟨h.u, 0, none⟩) n n) := hr.p.cell 0
  clear hr
  rcases ha with ha | ha
  · go_enter Try.func18, Try.ntmps18
    go_wp2
    go_ret
    exact ⟨rfl, rfl⟩
  · have ha0 : 0 ≤ a := by omega
    go_enter Try.func18, Try.ntmps18
    go_wp2
    go_ret
    exact ⟨ret_bool (by simp; omega), rfl⟩

theorem many_any {h : At} {L : List Nat} (w : World) (hs : SetsAt w h L) :
    Calls Try.prog 14 #[.pointer (some ⟨h.p, 0, none⟩)] w fun e w' => e = .returned (.int .i64 (roots L : Nat)) ∧ w = w' := by
  obtain ⟨up, least, many, left, g, rk, K, hr, hf, hd⟩ := hs
  have c0 : w.cell? ⟨h.p, 3, none⟩ = some (.int .i64 (left : Int)) := hr.p.cell 3
  have hl := Lib.hid hd.left
  clear hr hf hd
  go_enter Try.func14, Try.ntmps14
  go_wp2
  go_ret
  exact ⟨ret_int (by rw [hl.out]), rfl⟩
theorem many_nil (w : World) :
    Calls Try.prog 14 #[.pointer none] w fun e w' => e = .returned (.int .i64 0) ∧ w = w' := by
  go_enter Try.func14, Try.ntmps14
  go_wp2
  go_ret
  exact ⟨rfl, rfl⟩
theorem least_nil (a : Int) (w : World) :
    Calls Try.prog 15 #[.pointer none, .int .i64 a] w fun e w' => e = .returned (.int .i64 (-1)) ∧ w = w' := by
  go_enter Try.func15, Try.ntmps15
  go_wp2_with (go_at_call 18; refine (has_nil _ _).mono ?_; rintro e w' ⟨rfl, rfl⟩)
  go_ret
  exact ⟨rfl, rfl⟩
theorem least_no {h : At} {L : List Nat} (a : Int) (w : World) (hs : SetsAt w h L) (ha : of_ L a = none) :
    Calls Try.prog 15 #[.pointer (some ⟨h.p, 0, none⟩), .int .i64 a] w fun e w' => e = .returned (.int .i64 (-1)) ∧ w = w' := by
  obtain ⟨up, least, many, left, g, rk, K, hr, hf, hd⟩ := hs
  have H := has_no a w hr (of_none ha)
  clear hr hf hd ha
  go_enter Try.func15, Try.ntmps15
  have H' := Lib.hid H; clear H
  go_wp2_with (go_at_call 18; refine H'.out.mono ?_; rintro e w' ⟨rfl, rfl⟩)
  go_ret
  exact ⟨rfl, rfl⟩
theorem Fr.own_u {h : At} {w w' : World} (hf : Fr (· = h.u) w w') : Fr h.own w w' := hf.mono fun _ _ e => .inr (.inl e)

set_option maxHeartbeats 400000 in
theorem least_yes {h : At} {L : List Nat} (a l : Nat) (w : World) (hs : SetsAt w h L) (ha : L[a]? = some l) :
    Calls Try.prog 15 #[.pointer (some ⟨h.p, 0, none⟩), .int .i64 (a : Int)] w fun e w' => e = .returned (.int .i64 (l : Int)) ∧ SetsAt w' h L ∧ Fr h.own w w' := by
  obtain ⟨up, least, many, left, g, rk, K, hr, hf, hd⟩ := hs
  have hlt : a < L.length := (List.getElem?_eq_some_iff.1 ha).1
  have H := Lib.hid (has_yes a w hr hlt)
  have hgl : g a < L.length := hf.glt a hlt
  have hl1 := hd.least a l ha
  have c0 : w.cell? ⟨h.p, 2, none⟩ = some (.slice (some ⟨h.l, 0, none⟩) L.length L.length) := hr.p.cell 2
  have HD := Lib.hid (And.intro hr (And.intro hf hd))
  have HL := Lib.hid hl1
  have hsm := hr.small
  clear hr hf hd ha hl1
  generalize hn : L.length = n at *
  have Hn := Lib.hid hn
  clear hn
  go_enter Try.func15, Try.ntmps15
  go_wp2_with (go_at_call 18; refine H.out.mono ?_; rintro e w' ⟨rfl, rfl⟩)
  go_region_with (go_at_call 19; refine (head_any h n up least many left g rk K a _ ?_ HD.out.2.1 hlt).mono ?_; exact HD.out.1.drew; rintro e w1 ⟨up1, rfl, hr1, hf1, hfr1⟩; have c1 : w1.cell? ⟨h.p, 2, none⟩ = some (.slice (some ⟨h.l, 0, none⟩) n n) := hr1.p.cell 2; have c2 : w1.cell? ⟨h.l, g a, none⟩ = some (.int .i64 (l : Int)) := (hr1.l.cell _).trans (nats_at HL.out); have H1 := Lib.hid (And.intro hr1 (And.intro hf1 hfr1)); clear hr1 hf1 hfr1)
  all_goals go_wp2
  all_goals go_ret
  all_goals
    obtain ⟨h1, h2, h3⟩ := H1.out
    obtain rfl := Hn.out
    exact ⟨rfl, ⟨_, _, _, _, g, rk, K, h1, h2, HD.out.2.2⟩, h3.undrew.own_u⟩
end Go.Proofs.Ytogbdilbbofdiaa
