/-
  unite: UniteDoes: alike.
-/
import Derived.Test.YtogbdilbbofdiaaUnM
namespace Go.Proofs.Ytogbdilbbofdiaa
open Go.RowKit

theorem roots_groups (L : List Nat) : roots L = (groupsI L).length := by
  unfold groupsI groups roots
  rw [List.length_map, groupsTo_len]
  unfold keysTo
  rw [List.countP_eq_length_filter]
theorem roots_len (L : List Nat) : ((roots L : Int) == ((groupsI L).length : Int)) = true := by simp [roots_groups]

@[local simp] theorem fr_drew_iff {S : Nat → Prop} {w w' : World} : Fr S w w'.drew ↔ Fr S w w' := ⟨fun h => ⟨h.os, h.tape, h.output, h.size, h.block⟩, fun h => ⟨h.os, h.tape, h.output, h.size, h.block⟩⟩
theorem SetsAt.undrew {w : World} {h : At} {L : List Nat} (hs : SetsAt w.drew h L) : SetsAt w h L := hs.fr (w' := w) ⟨rfl, rfl, rfl, Nat.le_refl _, fun _ _ _ => rfl⟩ fun _ _ _ h => h
@[local simp] theorem sets_drew_iff {w : World} {h : At} {L : List Nat} : SetsAt w.drew h L ↔ SetsAt w h L := ⟨SetsAt.undrew, fun hs => hs.drewN 1⟩

theorem frame_step {S : Nat → Prop} {w wk w0 w1 : World} {p : Addr} {u : Value} (c : wk.cell? p = some u) (h : Fr S w wk) (hf : Fr S w0 w1) (hp : ¬ S p.block) (he : w0 = wk ∨ w0 = wk.drew) : w1.cell? p = some u ∧ Fr S w w1 := by
  have hf' : Fr S wk w1 := by
    rcases he with rfl | rfl
    · exact hf
    · exact hf.undrew
  exact ⟨(hf'.cell (World.block_lt_of_cell? _ _ c) hp).trans c, h.trans hf'⟩

set_option maxHeartbeats 1600000 in
theorem alike_yes {h : At} {L : List Nat} {v : Value} (a : Int) (w : World) (hs : SetsAt w h L) (hr : RefAt w (fun k => ¬ h.own k) v L) :
    Calls Try.prog 22 #[.pointer (some ⟨h.p, 0, none⟩), v, .int .i64 a] w fun e w' => e = .returned (.bool true) ∧ SetsAt w' h L ∧ Fr h.own w w' := by
  obtain ⟨A, c, rfl, hrd⟩ := hr
  have hsm := hs.small
  have H := Lib.hid (And.intro hs hrd)
  have hown : ∀ k, h.own k → k < w.heap.size := fun k hk => hs.own_lt hk
  have HO := Lib.hid hown
  clear hs hrd hown
  go_enter Try.func22, Try.ntmps22
  go_wp2_with fail
  have hb0 : Below w.heap.size w (w.alloc (.cells #[.slice A L.length c] 45)) := (Below.refl _ _).alloc (Nat.le_refl _) _
  refine (ref_groups A c L _ (H.out.2.below hb0) (by omega)).mono ?_
  rintro e w1 ⟨g, rfl, hl, hb1⟩
  have hB : Blk w1 w.heap.size 45 #[.slice A L.length c] := (Blk.new _ _ _).below hb1 (by simp)
  have hb2 := below_step hb0 hb1 hb0.size
  have c0 : w1.cell? ⟨w.heap.size, 0, none⟩ = some (.slice A L.length c) := hB.cell 0
  have hs1 : SetsAt w1 h L := H.out.1.below hb2
  obtain ⟨A1, c1, rfl⟩ := hl.form
  rw [List.length_map] at hl
  have F0 : Fr h.own w1 w1 := Fr.refl _ _
  have hno : ¬ h.own w.heap.size := fun hh => by have := HO.out _ hh; omega
  have hrt := roots_len L
  have HL := Lib.hid (And.intro hl hb2)
  clear hl hb0 hb1 hb2 hB
  go_wp2_with fail
  go_region_held3 (fun w' => w'.cell? ⟨w.heap.size, 0, none⟩ = some (.slice A L.length c) ∧ SetsAt w' h L ∧ Fr h.own w1 w') (go_keep) (first
    | (go_at_call 13
       refine (groups_int (h := h) (L := L) _ (by simp [*])).mono ?_
       rintro e w2 ⟨v2, rfl, hl2, hs2, hf2⟩
       obtain ⟨hk1, hk2⟩ := frame_step (w := w1) (p := ⟨w.heap.size, 0, none⟩) (u := .slice A L.length c) (by assumption) (by assumption) hf2 hno (by first | exact .inl rfl | exact .inr rfl))
    | (go_at_call 12
       refine (lists_at _ _ (groupsI L) (groupsI L) true _ (by simp) (by assumption) (HL.out.1.fr hk2 (fun q hq h1 h2 => by have := HO.out q h2; have h3 := h1.1; simp at h3; omega)) (by have := groupsI_len L; omega) (by have := groupsI_len L; omega) (fun r hr => by have := groupsI_row L r hr; omega) (fun r hr => by have := groupsI_row L r hr; omega)).mono ?_
       rintro e w3 ⟨rfl, hb3⟩
       have hs3 := hs2.below hb3
       obtain ⟨hk3, hk4⟩ := frame_step (w := w1) (p := ⟨w.heap.size, 0, none⟩) (u := .slice A L.length c) hk1 hk2 (Fr.of_below hb3 h.own) hno (.inl rfl))
    | (go_at_call 14
       refine (many_any (h := h) (L := L) _ (by assumption)).mono ?_
       rintro e w4 ⟨rfl, rfl⟩)
    | (go_at_call 15
       refine (least_any (h := h) (L := L) a _ (by assumption)).mono ?_
       rintro e w5 ⟨rfl, hs5, hf5⟩
       obtain ⟨hk5, hk6⟩ := frame_step (w := w1) (p := ⟨w.heap.size, 0, none⟩) (u := .slice A L.length c) (by assumption) (by assumption) hf5 hno (by first | exact .inl rfl | exact .inr rfl))
    | (go_at_call 24
       have hf6 := Fr.trans (Fr.of_below HL.out.2 h.own) ‹Fr h.own w1 _›
       refine (ref_least A c L a _ (H.out.2.fr hf6 (fun k _ h1 => h1)) (by omega)).mono ?_
       rintro e w6 ⟨rfl, hb6⟩
       have hs6 := ‹SetsAt _ h L›.below hb6
       obtain ⟨hk7, hk8⟩ := frame_step (w := w1) (p := ⟨w.heap.size, 0, none⟩) (u := .slice A L.length c) (by assumption) (by assumption) (Fr.of_below hb6 h.own) hno (by first | exact .inl rfl | exact .inr rfl)))
  all_goals go_wp2
  all_goals go_ret
  all_goals exact ⟨rfl, by simp [*], (Fr.of_below HL.out.2 h.own).trans (by simp [*])⟩
end Go.Proofs.Ytogbdilbbofdiaa
