/-
  inst.pick.
-/
import Derived.Test.YteepfhdndhepmaaInH
import Derived.Test.YteepfhdndhepmaaMrec
namespace Go.Proofs.Yteepfhdndhepmaa
open Go.RowKit

def pickL {α : Type} (l : List α) (d : α) (at_ : List Nat) : List α := at_.map fun k => l.getD k d
theorem pickL_len {α : Type} (l : List α) (d : α) (at_ : List Nat) : (pickL l d at_).length = at_.length := by simp [pickL]
theorem pickL_step {α : Type} {l : List α} {d x : α} {at_ : List Nat} {k j : Nat} (h : at_[k]? = some j) (hx : l[j]? = some x) : pickL l d (at_.take (k + 1)) = pickL l d (at_.take k) ++ [x] := by
  unfold pickL
  rw [List.take_add_one, h, List.map_append]
  simp [List.getD_eq_getElem?_getD, hx]
def arc0 : PArc := ⟨0, 0, 0, 0, 0⟩

set_option maxRecDepth 100000 in
set_option maxHeartbeats 1600000 in
theorem pick64_any {S T : Nat → Prop} (A B : Option Addr) (c d : Nat) (l : List Int) (at_ : List Nat) (w : World) (hr : Rd w S 1 A l.length (intl l)) (ha : Rd w T 1 B at_.length (natl at_)) (hl : l.length ≤ maxLen) (hat : at_.length ≤ 100000) (hv : ∀ k ∈ at_, k < l.length) :
    Calls Try.prog 32 #[.slice A l.length c, .slice B at_.length d] w (FreshPost w 1 at_.length (intl (pickL l 0 at_))) := by
  unfold maxLen at hl
  obtain ⟨i0, hi0, hz0, hz1, hz2⟩ := info_parts int64_info
  have HR := Lib.hid (And.intro hr (And.intro ha hv))
  clear hr ha hv
  generalize hn : l.length = n at *
  have Hn := Lib.hid hn
  clear hn
  generalize hm : at_.length = m at *
  have Hm := Lib.hid hm
  clear hm
  go_enter Try.func32, Try.ntmps32
  go_wp2_with fail
  go_loopw [5, 7, 10] (fun o _ u wr => ∃ k : Nat, u = .int .i64 k ∧ k ≤ m ∧ wr.ownsRow w.heap.size 2 1 o k (intl (pickL l 0 (at_.take k))) ∧ Below w.heap.size w wr)
    (fun _ _ u _ => m - (intOf u).toNat)
  case atStart => exact ⟨0, rfl, Nat.zero_le _, World.ownsRow_nil _ _ _ _, Below.refl _ _⟩
  case round =>
    obtain ⟨k, rfl, hk, hown, hbl⟩ := hrel
    obtain ⟨A5, a5, rfl⟩ := own_form hown
    have hsz := hbl.size
    by_cases hlt : k < m
    · obtain ⟨j, hj⟩ : ∃ j, at_[k]? = some j := ⟨_, List.getElem?_eq_getElem (by have := Hm.out; omega)⟩
      have hjn := HR.out.2.2 j (List.mem_of_getElem? hj)
      obtain ⟨x, hx⟩ : ∃ x, l[j]? = some x := ⟨_, List.getElem?_eq_getElem (by have := Hn.out; omega)⟩
      obtain ⟨B1, O1, rfl, _, hc1⟩ := (HR.out.2.1.below hbl).addr (by omega)
      obtain ⟨B2, O2, rfl, _, hc2⟩ := (HR.out.1.below hbl).addr (by omega)
      have e1 : wr.cell? ⟨B1, O1 + k, none⟩ = some (.int .i64 (j : Int)) := hc1 _ _ (natl_at hj)
      have e2 : wr.cell? ⟨B2, O2 + j, none⟩ = some (.int .i64 x) := hc2 _ _ (intl_at hx)
      have H := Lib.hid (And.intro hown (And.intro hbl (pickL_step (d := 0) hj hx)))
      clear hown hbl hj hx hc1 hc2
      have h63 : k + 1 ≤ maxLen := by unfold maxLen; omega
      have hby : (k + 1) * 8 ≤ 140737488355328 := by omega
      go_wp2_with (first
        | (at_builtin
           refine wpList_append_one rfl (.tmp 14) (.tmp 19) 23 rfl w.heap.size 2 i0 _ 8 Try.underlying23 hi0 hz0 hz1 hz2 rfl (.slice A5 k a5) k _ rfl H.out.1 wr.heap.size rfl _ rfl rfl h63 hby hsz ?_
           intro g cap w3 own3 fr3 hat3 hlt3
           have hng : ∀ q, (Value.slice A5 k a5).ownBlock = some q → w.heap.size ≤ q := fun q e => (H.out.1.lt q e).1
           have hbl3 := H.out.2.1.trans (fr3.below (B := w.heap.size) (fun q hq _ e => by have := hng _ e; omega) (by omega))
           have H3 := Lib.hid (And.intro own3 hbl3)
           clear own3 hbl3 fr3 hng))
      go_roundw
      case rel =>
        refine ⟨k + 1, by go_num, hlt, ?_, H3.out.2⟩
        rw [H.out.2.2, intl_snoc]
        exact H3.out.1
      case measure => simp [intOf]; omega
    · obtain rfl : k = m := by omega
      rw [List.take_of_length_le (by have := Hm.out; omega)] at hown
      have FI : FreshPost w 1 k (intl (pickL l 0 at_)) (.returned (.slice A5 k a5)) wr := ⟨_, rfl, own_row hown, hbl⟩
      have FI := Lib.hid FI
      clear hown hbl
      go_wp2
      go_ret
      exact FI.out

set_option maxRecDepth 100000 in
set_option maxHeartbeats 1600000 in
theorem pickA_any {S T : Nat → Prop} (A B : Option Addr) (c d : Nat) (l : List PArc) (at_ : List Nat) (w : World) (hr : Rd w S 5 A l.length (arcl l)) (ha : Rd w T 1 B at_.length (natl at_)) (hl : l.length ≤ maxLen) (hat : at_.length ≤ 100000) (hv : ∀ k ∈ at_, k < l.length) :
    Calls Try.prog 33 #[.slice A l.length c, .slice B at_.length d] w (FreshPost w 5 at_.length (arcl (pickL l arc0 at_))) := by
  unfold maxLen at hl
  obtain ⟨i0, hi0, hz0, hz1, hz2⟩ := info_parts arc_info
  have HR := Lib.hid (And.intro hr (And.intro ha hv))
  clear hr ha hv
  generalize hn : l.length = n at *
  have Hn := Lib.hid hn
  clear hn
  generalize hm : at_.length = m at *
  have Hm := Lib.hid hm
  clear hm
  go_enter Try.func33, Try.ntmps33
  go_wp2_with fail
  go_loopw [5, 7, 10] (fun o _ u wr => ∃ k : Nat, u = .int .i64 k ∧ k ≤ m ∧ wr.ownsRow w.heap.size 36 5 o k (arcl (pickL l arc0 (at_.take k))) ∧ Below w.heap.size w wr)
    (fun _ _ u _ => m - (intOf u).toNat)
  case atStart => exact ⟨0, rfl, Nat.zero_le _, World.ownsRow_nil _ _ _ _, Below.refl _ _⟩
  case round =>
    obtain ⟨k, rfl, hk, hown, hbl⟩ := hrel
    obtain ⟨A5, a5, rfl⟩ := own_form hown
    have hsz := hbl.size
    by_cases hlt : k < m
    · obtain ⟨j, hj⟩ : ∃ j, at_[k]? = some j := ⟨_, List.getElem?_eq_getElem (by have := Hm.out; omega)⟩
      have hjn := HR.out.2.2 j (List.mem_of_getElem? hj)
      obtain ⟨x, hx⟩ : ∃ x, l[j]? = some x := ⟨_, List.getElem?_eq_getElem (by have := Hn.out; omega)⟩
      obtain ⟨B1, O1, rfl, _, hc1⟩ := (HR.out.2.1.below hbl).addr (by omega)
      obtain ⟨B2, O2, rfl, _, f0, f1, f2, f3, f4⟩ := (HR.out.1.below hbl).arc hx Hn.out
      have e1 : wr.cell? ⟨B1, O1 + k, none⟩ = some (.int .i64 (j : Int)) := hc1 _ _ (natl_at hj)
      have H := Lib.hid (And.intro hown (And.intro hbl (pickL_step (d := arc0) hj hx)))
      clear hown hbl hj hx hc1
      have h63 : k + 1 ≤ maxLen := by unfold maxLen; omega
      have hby : (k + 1) * 40 ≤ 140737488355328 := by omega
      go_wp2_with (first
        | (at_builtin
           refine wpList_append_rec rfl (.tmp 14) (.tmp 19) 24 rfl w.heap.size 36 i0 _ 5 40 Try.underlying24 hi0 hz0 hz1 hz2 rfl (by omega) (.slice A5 k a5) k _ rfl H.out.1 wr.heap.size rfl _ rfl rfl (by simp [Value.oneCell']) h63 hby hsz ?_
           intro g cap w3 own3 fr3 hat3 hlt3
           have hng : ∀ q, (Value.slice A5 k a5).ownBlock = some q → w.heap.size ≤ q := fun q e => (H.out.1.lt q e).1
           have hbl3 := H.out.2.1.trans (fr3.below (B := w.heap.size) (fun q hq _ e => by have := hng _ e; omega) (by omega))
           have H3 := Lib.hid (And.intro own3 hbl3)
           clear own3 hbl3 fr3 hng))
      go_roundw
      case rel =>
        refine ⟨k + 1, by go_num, hlt, ?_, H3.out.2⟩
        rw [H.out.2.2, arcl_snoc]
        exact H3.out.1
      case measure => simp [intOf]; omega
    · obtain rfl : k = m := by omega
      rw [List.take_of_length_le (by have := Hm.out; omega)] at hown
      have FI : FreshPost w 5 k (arcl (pickL l arc0 at_)) (.returned (.slice A5 k a5)) wr := ⟨_, rfl, own_row hown, hbl⟩
      have FI := Lib.hid FI
      clear hown hbl
      go_wp2
      go_ret
      exact FI.out
end Go.Proofs.Yteepfhdndhepmaa
