/-
  The reference's Off, Kept, Place; slices.Index.
-/
import Derived.Test.YteepfhdndhepmaaInG
namespace Go.Proofs.Yteepfhdndhepmaa
open Go.RowKit

theorem off_any {S : Nat → Prop} (A : Option Addr) (c : Nat) (off : List Bool) (k : Nat) (w : World) (hr : Rd w S 1 A off.length (booll off)) (ho : off.length ≤ maxLen) :
    Calls Try.prog 38 #[.slice A off.length c, .int .i64 (k : Int)] w fun e w' => e = .returned (.bool (off[k]? == some true)) ∧ w = w' := by
  unfold maxLen at ho
  by_cases hk : k < off.length
  · obtain ⟨b, hb⟩ : ∃ b, off[k]? = some b := ⟨_, List.getElem?_eq_getElem hk⟩
    obtain ⟨B1, O1, rfl, _, hc⟩ := hr.addr (by omega)
    have e0 : w.cell? ⟨B1, O1 + k, none⟩ = some (.bool b) := hc _ _ (booll_at hb)
    rw [hb]
    have e1 : (some b == some true) = b := by cases b <;> rfl
    rw [e1]
    clear hb hc e1 hr
    generalize off.length = len at *
    go_enter Try.func38, Try.ntmps38
    go_wp2
    go_ret
    exact ⟨rfl, rfl⟩
  · have hb : off[k]? = none := List.getElem?_eq_none (by omega)
    rw [hb]
    clear hb hr
    generalize off.length = len at *
    go_enter Try.func38, Try.ntmps38
    go_wp2
    go_ret
    exact ⟨rfl, rfl⟩

set_option maxRecDepth 100000 in
set_option maxHeartbeats 1600000 in
theorem refkept_any {S : Nat → Prop} (A : Option Addr) (c : Nat) (off : List Bool) (n : Int) (m : Nat) (w : World) (hr : Rd w S 1 A off.length (booll off)) (ho : off.length ≤ maxLen) (hm : m ≤ 1000) (hnm : max 0 (min n 1000) = m) :
    Calls Try.prog 22 #[.slice A off.length c, .int .i64 n] w (FreshPost w 1 (keptN off m).length (natl (keptN off m))) := by
  obtain ⟨i0, hi0, hz0, hz1, hz2⟩ := info_parts int_info
  have HR := Lib.hid hr
  clear hr
  go_enter Try.func22, Try.ntmps22
  go_wp2_with fail
  go_loopw [5, 6] (fun o u wr => ∃ k : Nat, u = .int .i64 k ∧ k ≤ m ∧ wr.ownsRow w.heap.size 3 1 o (keptN off k).length (natl (keptN off k)) ∧ Below w.heap.size w wr)
    (fun _ u _ => m - (intOf u).toNat)
  case atStart => exact ⟨0, rfl, Nat.zero_le _, World.ownsRow_nil _ _ _ _, Below.refl _ _⟩
  case round =>
    obtain ⟨k, rfl, hk, hown, hbl⟩ := hrel
    obtain ⟨A5, a5, rfl⟩ := own_form hown
    have hsz := hbl.size
    have hkl := keptN_len off k
    by_cases hlt : k < m
    · have t1 : (k : Int) < n := by omega
      have t2 : (k : Int) < 1000 := by omega
      have H := Lib.hid (And.intro hown hbl)
      clear hown hbl
      go_wp2_with fail
      refine (off_any A c off k _ (HR.out.below H.out.2) ho).mono ?_
      rintro e w2 ⟨rfl, rfl⟩
      by_cases hoff : off[k]? = some true
      · have hb : (off[k]? == some true) = true := by simp [hoff]
        have HO := Lib.hid hoff
        clear hoff
        go_wp2_with fail
        go_roundw
        case rel =>
          refine ⟨k + 1, by go_num, hlt, ?_, H.out.2⟩
          rw [keptN_no HO.out]
          exact H.out.1
        case measure => simp [intOf]; omega
      · have hb : (off[k]? == some true) = false := by simp [hoff]
        have h63 : (keptN off k).length + 1 ≤ maxLen := by unfold maxLen; omega
        have hby : ((keptN off k).length + 1) * 8 ≤ 140737488355328 := by omega
        have hgo : ∀ (w3 : World) g cap, w3.ownsRow w.heap.size 3 1 (.slice (some ⟨g, 0, none⟩) ((keptN off k).length + 1) cap) ((keptN off k).length + 1) (natl (keptN off k) ++ [.int .i64 (k : Int)]) → w3.ownsRow w.heap.size 3 1 (.slice (some ⟨g, 0, none⟩) ((keptN off k).length + 1) cap) (keptN off (k + 1)).length (natl (keptN off (k + 1))) := by
          intro w3 g cap h
          rw [keptN_yes hoff, natl_snoc, List.length_append]
          exact h
        have HG := Lib.hid hgo
        clear hgo hoff
        generalize hgk : (keptN off k).length = gk at *
        clear hgk
        go_wp2_with (first
          | (at_builtin
             refine wpList_append_one rfl (.tmp 20) (.tmp 22) 45 rfl w.heap.size 3 i0 _ 8 Try.underlying45 hi0 hz0 hz1 hz2 rfl (.slice A5 gk a5) gk _ rfl H.out.1 wr.heap.size rfl _ rfl rfl h63 hby hsz ?_
             intro g cap w3 own3 fr3 hat3 hlt3
             have hng : ∀ q, (Value.slice A5 gk a5).ownBlock = some q → w.heap.size ≤ q := fun q e => (H.out.1.lt q e).1
             have hbl3 := H.out.2.trans (fr3.below (B := w.heap.size) (fun q hq _ e => by have := hng _ e; omega) (by omega))
             have H3 := Lib.hid (And.intro own3 hbl3)
             clear own3 hbl3 fr3 hng))
        go_roundw
        case rel => exact ⟨k + 1, by go_num, hlt, HG.out _ _ _ H3.out.1, H3.out.2⟩
        case measure => simp [intOf]; omega
    · obtain rfl : k = m := by omega
      have FI : FreshPost w 1 (keptN off k).length (natl (keptN off k)) (.returned (.slice A5 (keptN off k).length a5)) wr := ⟨_, rfl, own_row hown, hbl⟩
      have FI := Lib.hid FI
      clear hown hbl
      by_cases t1 : (k : Int) < n
      · have t2 : ¬ (k : Int) < 1000 := by omega
        go_wp2
        go_ret
        exact FI.out
      · go_wp2
        go_ret
        exact FI.out

/-- The place of a number in a list; below 0: it is not there. -/
def idxN (l : List Nat) (n : Int) : Int := match l.findIdx? (fun x : Nat => (x : Int) == n) with
  | some i => i
  | none => -1
theorem idx_done {l : List Nat} {n : Int} (h : ∀ k, k < l.length → ∀ x : Nat, l[k]? = some x → ¬ (x : Int) = n) : idxN l n = -1 := by
  unfold idxN
  have : l.findIdx? (fun x : Nat => (x : Int) == n) = none := by
    rw [List.findIdx?_eq_none_iff]
    intro x hx
    obtain ⟨k, hk⟩ := List.mem_iff_getElem?.1 hx
    have h1 := h k (List.getElem?_eq_some_iff.1 hk).1 x hk
    simpa using h1
  rw [this]
theorem idx_at {l : List Nat} {n : Int} {k x : Nat} (hk : l[k]? = some x) (hx : (x : Int) = n) (h : ∀ j, j < k → ∀ y : Nat, l[j]? = some y → ¬ (y : Int) = n) : idxN l n = k := by
  unfold idxN
  obtain ⟨h1, h2⟩ := List.getElem?_eq_some_iff.1 hk
  have : l.findIdx? (fun x : Nat => (x : Int) == n) = some k := by
    rw [List.findIdx?_eq_some_iff_getElem]
    refine ⟨h1, by simp [h2, hx], fun j hj => ?_⟩
    have h3 := h j hj _ (List.getElem?_eq_getElem (by omega))
    simpa using h3
  rw [this]
theorem idx_range (l : List Nat) (n : Int) : -1 ≤ idxN l n ∧ idxN l n < l.length ∨ idxN l n = -1 := by
  unfold idxN
  cases h : l.findIdx? (fun x : Nat => (x : Int) == n) with
  | none => exact .inr rfl
  | some i =>
    rw [List.findIdx?_eq_some_iff_getElem] at h
    obtain ⟨h1, _⟩ := h
    simp
    omega

theorem index_any {S : Nat → Prop} (A : Option Addr) (c : Nat) (l : List Nat) (n : Int) (w : World) (hr : Rd w S 1 A l.length (natl l)) (hl : l.length ≤ maxLen) :
    Calls Try.prog 34 #[.slice A l.length c, .int .i64 n] w fun e w' => e = .returned (.int .i64 (idxN l n)) ∧ w = w' := by
  unfold maxLen at hl
  have HR := Lib.hid hr
  clear hr
  generalize hlen : l.length = len at *
  have Hl := Lib.hid hlen
  clear hlen
  go_enter Try.func34, Try.ntmps34
  go_wp2_with fail
  go_loopw [5, 8] (fun _ u wr => ∃ k : Nat, u = .int .i64 k ∧ k ≤ len ∧ (∀ j, j < k → ∀ y : Nat, l[j]? = some y → ¬ (y : Int) = n) ∧ w = wr)
    (fun _ u _ => len - (intOf u).toNat)
  case atStart => exact ⟨0, rfl, Nat.zero_le _, fun j hj => by omega, rfl⟩
  case round =>
    obtain ⟨k, rfl, hk, hno, rfl⟩ := hrel
    have HN := Lib.hid hno
    clear hno
    by_cases hlt : k < len
    · obtain ⟨x, hx⟩ : ∃ x, l[k]? = some x := ⟨_, List.getElem?_eq_getElem (by have := Hl.out; omega)⟩
      obtain ⟨B1, O1, rfl, _, hc⟩ := HR.out.addr (by omega)
      have e0 : w.cell? ⟨B1, O1 + k, none⟩ = some (.int .i64 (x : Int)) := hc _ _ (natl_at hx)
      have HX := Lib.hid hx
      clear hx hc
      by_cases hxn : (x : Int) = n
      · subst hxn
        have FI := Lib.hid (idx_at HX.out rfl HN.out)
        go_wp2
        go_ret
        exact ⟨ret_int FI.out.symm, rfl⟩
      · have h1 : (n == (x : Int)) = false := by simp; omega
        have h2 : ¬ n = (x : Int) := fun e => hxn e.symm
        have HXN := Lib.hid hxn
        clear hxn
        go_wp2_with fail
        go_roundw
        case rel =>
          refine ⟨k + 1, by go_num, hlt, fun j hj y hy => ?_, trivial⟩
          rcases Nat.lt_or_ge j k with h | h
          · exact HN.out j h y hy
          · obtain rfl : j = k := by omega
            rw [HX.out] at hy
            obtain rfl := Option.some.inj hy
            exact HXN.out
        case measure => simp [intOf]; omega
    · obtain rfl : k = len := by omega
      have FI := Lib.hid (idx_done (l := l) (n := n) (fun j hj => HN.out j (by have := Hl.out; omega)))
      go_wp2
      go_ret
      exact ⟨ret_int FI.out.symm, rfl⟩

theorem place_any {S : Nat → Prop} (A : Option Addr) (c : Nat) (l : List Nat) (n : Int) (w : World) (hr : Rd w S 1 A l.length (natl l)) (hl : l.length ≤ maxLen) :
    Calls Try.prog 44 #[.slice A l.length c, .int .i64 n] w fun e w' => e = .returned (.int .i64 (idxN l n)) ∧ w = w' := by
  unfold maxLen at hl
  have HR := Lib.hid hr
  clear hr
  generalize hlen : l.length = len at *
  have Hl := Lib.hid hlen
  clear hlen
  go_enter Try.func44, Try.ntmps44
  go_wp2_with fail
  go_loopw [5] (fun u wr => ∃ k : Nat, u = .int .i64 k ∧ k ≤ len ∧ (∀ j, j < k → ∀ y : Nat, l[j]? = some y → ¬ (y : Int) = n) ∧ w = wr)
    (fun u _ => len - (intOf u).toNat)
  case atStart => exact ⟨0, rfl, Nat.zero_le _, fun j hj => by omega, rfl⟩
  case round =>
    obtain ⟨k, rfl, hk, hno, rfl⟩ := hrel
    have HN := Lib.hid hno
    clear hno
    by_cases hlt : k < len
    · obtain ⟨x, hx⟩ : ∃ x, l[k]? = some x := ⟨_, List.getElem?_eq_getElem (by have := Hl.out; omega)⟩
      obtain ⟨B1, O1, rfl, _, hc⟩ := HR.out.addr (by omega)
      have e0 : w.cell? ⟨B1, O1 + k, none⟩ = some (.int .i64 (x : Int)) := hc _ _ (natl_at hx)
      have HX := Lib.hid hx
      clear hx hc
      by_cases hxn : (x : Int) = n
      · subst hxn
        have FI := Lib.hid (idx_at HX.out rfl HN.out)
        go_wp2
        go_ret
        exact ⟨ret_int FI.out.symm, rfl⟩
      · have h1 : ((x : Int) == n) = false := by simp; omega
        have HXN := Lib.hid hxn
        go_wp2_with fail
        go_roundw
        case rel =>
          refine ⟨k + 1, by go_num, hlt, fun j hj y hy => ?_, trivial⟩
          rcases Nat.lt_or_ge j k with h | h
          · exact HN.out j h y hy
          · obtain rfl : j = k := by omega
            rw [HX.out] at hy
            obtain rfl := Option.some.inj hy
            exact HXN.out
        case measure => simp [intOf]; omega
    · obtain rfl : k = len := by omega
      have FI := Lib.hid (idx_done (l := l) (n := n) (fun j hj => HN.out j (by have := Hl.out; omega)))
      go_wp2
      go_ret
      exact ⟨ret_int FI.out.symm, rfl⟩
end Go.Proofs.Yteepfhdndhepmaa
