/-
  unite: the chapter's example; what the laws' walks lean on.
-/
import Derived.Test.YtogbdilbbofdiaaUnC
import Derived.Test.YtogbdilbbofdiaaUnD
import Derived.Test.YtogbdilbbofdiaaUnE
namespace Go.Proofs.Ytogbdilbbofdiaa
open Go.RowKit

theorem Fr.own_below {h : At} {w w' : World} {B : Nat} (hf : Fr h.own w w') (hfrom : h.from B) (hB : B ≤ w.heap.size) : Below B w w' :=
  hf.below (fun k hk _ ho => by
    obtain ⟨h1, h2, h3, h4⟩ := hfrom
    rcases ho with rfl | rfl | rfl | rfl <;> omega) hB

theorem join_at {h : At} {L L' : List Nat} {r : Bool} (a b : Int) (w : World) (hs : SetsAt w h L) (hB : joinB L a b = r) (hL : joinL L a b = L') :
    Calls Try.prog 10 #[.pointer (some ⟨h.p, 0, none⟩), .int .i64 a, .int .i64 b] w fun e w' => e = .returned (.bool r) ∧ SetsAt w' h L' ∧ Fr h.own w w' := by
  subst hB
  subst hL
  exact join_any a b w hs
theorem least_at {h : At} {L : List Nat} {r : Int} (a : Int) (w : World) (hs : SetsAt w h L) (hr : leastI L a = r) :
    Calls Try.prog 15 #[.pointer (some ⟨h.p, 0, none⟩), .int .i64 a] w fun e w' => e = .returned (.int .i64 r) ∧ SetsAt w' h L ∧ Fr h.own w w' := by
  subst hr
  exact least_any a w hs
theorem many_at {h : At} {L : List Nat} {r : Int} (w : World) (hs : SetsAt w h L) (hr : (roots L : Int) = r) :
    Calls Try.prog 14 #[.pointer (some ⟨h.p, 0, none⟩)] w fun e w' => e = .returned (.int .i64 r) ∧ w = w' := by
  subst hr
  exact many_any w hs

def groupsI (L : List Nat) : List (List Int) := (groups L).map fun l => l.map Int.ofNat
theorem rowsOf_groups (L : List Nat) : rowsOf (groups L) = (groupsI L).map intl := by
  unfold rowsOf groupsI
  rw [List.map_map]
  apply List.map_congr_left
  intro l _
  simp [natl, intl]
theorem groupsI_len (L : List Nat) : (groupsI L).length ≤ L.length := by
  unfold groupsI groups
  rw [List.length_map, groupsTo_len]
  exact keysTo_len _ _
theorem groupsI_row (L : List Nat) : ∀ r ∈ groupsI L, r.length ≤ L.length := by
  intro r hr
  unfold groupsI groups groupsTo at hr
  simp only [List.mem_map] at hr
  obtain ⟨l, ⟨k, _, rfl⟩, rfl⟩ := hr
  rw [List.length_map]
  exact Nat.le_trans (List.length_filter_le _ _) (by simp)
theorem SetsAt.small {w : World} {h : At} {L : List Nat} (hs : SetsAt w h L) : L.length ≤ 1000 := by
  obtain ⟨_, _, _, _, _, _, _, h1, _⟩ := hs
  exact h1.small

/-- Groups, with rows of ints. -/
theorem groups_int {h : At} {L : List Nat} (w : World) (hs : SetsAt w h L) :
    Calls Try.prog 13 #[.pointer (some ⟨h.p, 0, none⟩)] w fun e w' => ∃ v, e = .returned v ∧ LL w' (fun k => w.heap.size ≤ k ∧ k < w'.heap.size) v ((groupsI L).map intl) ∧ SetsAt w' h L ∧ Fr h.own w w' := by
  have := groups_any w hs
  rwa [rowsOf_groups] at this

theorem LL.lit2 {w : World} {g0 g1 g2 n1 n2 : Nat} {t0 t : TypeId} {cs1 cs2 : Array Value} (h0 : Blk w g0 t0 #[.slice (some ⟨g1, 0, none⟩) n1 n1, .slice (some ⟨g2, 0, none⟩) n2 n2])
    (h1 : Blk w g1 t cs1) (h2 : Blk w g2 t cs2) (e1 : cs1.size = n1) (e2 : cs2.size = n2) : LL w (fun _ => True) (.slice (some ⟨g0, 0, none⟩) 2 2) [cs1.toList, cs2.toList] := by
  subst e1
  subst e2
  refine ⟨_, 2, _, rfl, Rd.of_blk h0 trivial rfl, ?_⟩
  intro i u r hu hr
  match i, hu, hr with
  | 0, hu, hr =>
    simp at hu hr
    subst hu
    subst hr
    exact ⟨_, cs1.size, by simp, Rd.of_blk h1 trivial (by simp)⟩
  | 1, hu, hr =>
    simp at hu hr
    subst hu
    subst hr
    exact ⟨_, cs2.size, by simp, Rd.of_blk h2 trivial (by simp)⟩
  | n + 2, hu, hr => simp at hr

theorem lists_at {S T : Nat → Prop} (va vb : Value) (la lb : List (List Int)) (r : Bool) (w : World) (hr : decide (la = lb) = r) (ha : LL w S va (la.map intl)) (hb : LL w T vb (lb.map intl)) (h1 : la.length ≤ 100000) (h2 : lb.length ≤ 100000) (h3 : ∀ r ∈ la, r.length ≤ 100000) (h4 : ∀ r ∈ lb, r.length ≤ 100000) :
    Calls Try.prog 12 #[va, vb] w fun e w' => e = .returned (.bool r) ∧ Below w.heap.size w w' := by
  subst hr
  refine (lists_any va vb la lb w ha hb h1 h2 h3 h4).mono ?_
  rintro e w' ⟨rfl, k, rfl⟩
  exact ⟨rfl, ((Fr.refl (fun _ => False) w).drewN k).none_⟩
theorem SetsAt.drewN {w : World} {h : At} {L : List Nat} (hs : SetsAt w h L) (k : Nat) : SetsAt (w.drewN k) h L := hs.fr ((Fr.refl (fun _ => False) w).drewN k) fun _ _ _ h => h
theorem SetsAt.alloc {w : World} {h : At} {L : List Nat} (hs : SetsAt w h L) (o : Obj) : SetsAt (w.alloc o) h L := hs.fr ((Fr.refl (fun _ => False) w).alloc o) fun _ _ _ h => h
theorem SetsAt.below {w w' : World} {h : At} {L : List Nat} (hs : SetsAt w h L) (hb : Below w.heap.size w w') : SetsAt w' h L := hs.fr (Fr.of_below hb (fun _ => False)) fun _ _ _ h => h
/-- Below the first world, through a step that turns nothing old. -/
theorem below_step {B : Nat} {a w w' : World} (h : Below B a w) (hs : Below w.heap.size w w') (hB : B ≤ w.heap.size) : Below B a w' := h.trans (hs.mono hB)

/-- The chapter's example holds. -/
theorem known_yes (w : World) : Calls Try.prog 11 #[] w fun e w' => e = .returned (.bool true) ∧ Below w.heap.size w w' := by
  go_enter Try.func11, Try.ntmps11
  go_wp2_with fail
  refine (new_any 3 3 _ (by omega) (by decide)).mono ?_
  rintro e w1 ⟨h, rfl, hs1, hfrom, hb1⟩
  have H1 := Lib.hid (And.intro hs1 (And.intro hfrom hb1))
  clear hs1 hfrom hb1
  go_wp2_with fail
  refine (join_at 0 2 _ H1.out.1 (r := true) (L' := [0, 1, 0]) (by decide) (by decide)).mono ?_
  rintro e w2 ⟨rfl, hs2, hf2⟩
  have H2 := Lib.hid (And.intro hs2 (H1.out.2.2.trans (hf2.own_below H1.out.2.1 H1.out.2.2.size)))
  clear hs2 hf2
  go_wp2_with fail
  refine (join_at 2 0 _ H2.out.1 (r := false) (L' := [0, 1, 0]) (by decide) (by decide)).mono ?_
  rintro e w3 ⟨rfl, hs3, hf3⟩
  have H3 := Lib.hid (And.intro hs3 (H2.out.2.trans (hf3.own_below H1.out.2.1 H2.out.2.size)))
  clear hs3 hf3
  go_wp2_with fail
  refine (groups_int _ H3.out.1).mono ?_
  rintro e w4 ⟨v, rfl, hl4, hs4, hf4⟩
  have H4 := Lib.hid (And.intro hs4 (And.intro hl4 (H3.out.2.trans (hf4.own_below H1.out.2.1 H3.out.2.size))))
  clear hl4 hs4 hf4
  go_wp2_with fail
  have hb5 : Below w4.heap.size w4 (((w4.alloc (.cells #[Value.int IntKind.i64 0, Value.int IntKind.i64 2] 3)).alloc (.cells #[Value.int IntKind.i64 1] 3)).alloc (.cells #[.slice (some ⟨w4.heap.size, 0, none⟩) 2 2, .slice (some ⟨w4.heap.size + 1, 0, none⟩) 1 1] 28)) :=
    (((Below.refl _ _).alloc (Nat.le_refl _) _).alloc (by simp) _).alloc (by simp; omega) _
  have HB5 := Lib.hid hb5
  clear hb5
  refine (lists_at v _ (groupsI [0, 1, 0]) [[0, 2], [1]] true _ (by decide) (H4.out.2.1.below HB5.out)
    (LL.lit2 (cs1 := #[.int .i64 0, .int .i64 2]) (cs2 := #[.int .i64 1]) (n1 := 2) (n2 := 1) (Blk.new_ (by simp)) (((Blk.new _ _ _).alloc _).alloc _) ((Blk.new_ (by simp)).alloc _) rfl rfl) (by decide) (by decide) (by decide) (by decide)).mono ?_
  rintro e w5 ⟨rfl, hb6⟩
  have hb7 := below_step HB5.out hb6 HB5.out.size
  have H5 := Lib.hid (And.intro (H4.out.1.below hb7) (below_step H4.out.2.2 hb7 H4.out.2.2.size))
  clear hb6 hb7 HB5
  go_wp2_with fail
  refine (many_at _ H5.out.1 (r := 2) (by decide)).mono ?_
  rintro e w6 ⟨rfl, rfl⟩
  go_wp2_with fail
  refine (least_at 2 _ H5.out.1 (r := 0) (by decide)).mono ?_
  rintro e w7 ⟨rfl, hs7, hf7⟩
  have H7 := Lib.hid (And.intro hs7 (H5.out.2.trans (hf7.own_below H1.out.2.1 H5.out.2.size)))
  clear hs7 hf7
  go_wp2_with fail
  refine (least_at 3 _ H7.out.1 (r := -1) (by decide)).mono ?_
  rintro e w8 ⟨rfl, hs8, hf8⟩
  have H8 := Lib.hid (H7.out.2.trans (hf8.own_below H1.out.2.1 H7.out.2.size))
  clear hs8 hf8
  go_wp2_with fail
  go_ret
  exact ⟨rfl, H8.out⟩
end Go.Proofs.Ytogbdilbbofdiaa
