/-
  inst.Kept, pick, slices.Index, and the reference's Off, Kept, Place.
-/
import Derived.Test.YteepfhdndhepmaaInF
namespace Go.Proofs.Yteepfhdndhepmaa
open Go.RowKit

theorem int_info : (Try.prog.info? 3).map (fun i => (i.zero, i.size, i.bytes)) = some (some (.int .i64 0), 1, 8) := by kernel_rfl
theorem int64_info : (Try.prog.info? 2).map (fun i => (i.zero, i.size, i.bytes)) = some (some (.int .i64 0), 1, 8) := by kernel_rfl
theorem bool_info : (Try.prog.info? 4).map (fun i => (i.zero, i.size, i.bytes)) = some (some (.bool false), 1, 1) := by kernel_rfl
theorem arc_info : (Try.prog.info? 36).map (fun i => (i.zero, i.size, i.bytes)) = some (some (.agg #[.int .i64 0, .int .i64 0, .int .i64 0, .int .i64 0, .int .i64 0]), 5, 40) := by kernel_rfl

def booll (l : List Bool) : List Value := l.map Value.bool
theorem booll_len (l : List Bool) : (booll l).length = l.length := by simp [booll]
theorem booll_at {l : List Bool} {i : Nat} {b : Bool} (h : l[i]? = some b) : (booll l)[i]? = some (.bool b) := by simp [booll, h]

/-- A slice of the cells xs, of n elements. -/
def RowAt (w : World) (S : Nat → Prop) (size : Nat) (v : Value) (n : Nat) (xs : List Value) : Prop := ∃ A c, v = .slice A n c ∧ Rd w S size A n xs
theorem RowAt.fr {w w' : World} {S T : Nat → Prop} {size n : Nat} {v : Value} {xs : List Value} (h : RowAt w S size v n xs) (hf : Fr T w w') (hd : ∀ k, k < w.heap.size → S k → ¬ T k) : RowAt w' S size v n xs := by
  obtain ⟨A, c, e, h1⟩ := h
  exact ⟨A, c, e, h1.fr hf hd⟩
theorem RowAt.below {w w' : World} {S : Nat → Prop} {size n : Nat} {v : Value} {xs : List Value} (h : RowAt w S size v n xs) (hb : Below w.heap.size w w') : RowAt w' S size v n xs := by
  obtain ⟨A, c, e, h1⟩ := h
  exact ⟨A, c, e, h1.below hb⟩
theorem RowAt.mono {w : World} {S T : Nat → Prop} {size n : Nat} {v : Value} {xs : List Value} (h : RowAt w S size v n xs) (hs : ∀ k, k < w.heap.size → S k → T k) (h0 : 0 < size) : RowAt w T size v n xs := by
  obtain ⟨A, c, e, h1⟩ := h
  exact ⟨A, c, e, h1.mono hs h0⟩
theorem own_row {w : World} {base n size : Nat} {e : TypeId} {v : Value} {xs : List Value} (h : w.ownsRow base e size v n xs) : RowAt w (fun k => base ≤ k ∧ k < w.heap.size) size v n xs := by
  obtain ⟨A, c, e', h1⟩ := Rd.of_own h
  exact ⟨A, c, e', h1⟩

def keptN (off : List Bool) (m : Nat) : List Nat := (List.range m).filter fun k => off[k]? != some true
theorem keptN_yes {off : List Bool} {m : Nat} (h : off[m]? ≠ some true) : keptN off (m + 1) = keptN off m ++ [m] := by
  unfold keptN
  rw [List.range_succ, List.filter_append]
  simp [h]
theorem keptN_no {off : List Bool} {m : Nat} (h : off[m]? = some true) : keptN off (m + 1) = keptN off m := by
  unfold keptN
  rw [List.range_succ, List.filter_append]
  simp [h]
theorem keptN_len (off : List Bool) (m : Nat) : (keptN off m).length ≤ m := Nat.le_trans (List.length_filter_le _ _) (by simp)
theorem keptN_lt {off : List Bool} {m k : Nat} (h : k ∈ keptN off m) : k < m := by
  simp [keptN] at h
  exact h.1

def FreshPost (w : World) (size n : Nat) (xs : List Value) (e : Ending) (w' : World) : Prop := ∃ v, e = .returned v ∧ RowAt w' (fun k => w.heap.size ≤ k ∧ k < w'.heap.size) size v n xs ∧ Below w.heap.size w w'

set_option maxRecDepth 100000 in
set_option maxHeartbeats 1600000 in
theorem kept_any {S : Nat → Prop} (A : Option Addr) (c : Nat) (off : List Bool) (n : Int) (m : Nat) (w : World) (hr : Rd w S 1 A off.length (booll off)) (ho : off.length ≤ maxLen) (hm : m ≤ 1000) (hnm : max 0 (min n 1000) = m) :
    Calls Try.prog 21 #[.slice A off.length c, .int .i64 n] w (FreshPost w 1 (keptN off m).length (natl (keptN off m))) := by
  unfold maxLen at ho
  obtain ⟨i0, hi0, hz0, hz1, hz2⟩ := info_parts int_info
  have HR := Lib.hid hr
  clear hr
  generalize hl : off.length = len at *
  have Hl := Lib.hid hl
  clear hl
  go_enter Try.func21, Try.ntmps21
  obtain ⟨q, hq⟩ : ∃ q : Int, min n 1000 = q := ⟨_, rfl⟩
  have hqm : max 0 q = m := by omega
  go_upto_region 2 with fail
  go_cut [8, 9] (fun s8 s9 wx => w = wx ∧ s8 = .int .i64 q ∧ s9 = .int .i64 0)
  case first =>
    go_wp2
    all_goals go_meet
    all_goals
      refine ⟨rfl, ?_, rfl⟩
      congr 1
      omega
  case rest =>
    obtain ⟨rfl, rfl, rfl⟩ := hcut
    clear hq hnm
    go_wp2_with fail
    go_loopw [5, 6, 9] (fun o _ u wr => ∃ k : Nat, u = .int .i64 k ∧ k ≤ m ∧ wr.ownsRow w.heap.size 3 1 o (keptN off k).length (natl (keptN off k)) ∧ Below w.heap.size w wr)
      (fun _ _ u _ => m - (intOf u).toNat)
    case atStart => exact ⟨0, rfl, Nat.zero_le _, World.ownsRow_nil _ _ _ _, Below.refl _ _⟩
    case round =>
      obtain ⟨k, rfl, hk, hown, hbl⟩ := hrel
      obtain ⟨A5, a5, rfl⟩ := own_form hown
      have hsz := hbl.size
      have hkl := keptN_len off k
      by_cases hlt : k < m
      · have t1 : (k : Int) < q := by omega
        have H := Lib.hid (And.intro hown hbl)
        clear hown hbl
        by_cases hoff : off[k]? = some true
        · have hkl2 : k < len := by have := (List.getElem?_eq_some_iff.1 hoff).1; have := Hl.out; omega
          obtain ⟨B1, O1, rfl, _, hc⟩ := (HR.out.below H.out.2).addr (by omega)
          have e0 : wr.cell? ⟨B1, O1 + k, none⟩ = some (.bool true) := hc _ _ (booll_at hoff)
          have HO := Lib.hid hoff
          clear hoff hc
          go_wp2_with fail
          go_roundw
          case rel =>
            refine ⟨k + 1, by go_num, hlt, ?_, H.out.2⟩
            rw [keptN_no HO.out]
            exact H.out.1
          case measure => simp [intOf]; omega
        · have HO := Lib.hid hoff
          have h63 : (keptN off k).length + 1 ≤ maxLen := by unfold maxLen; omega
          have hby : ((keptN off k).length + 1) * 8 ≤ 140737488355328 := by omega
          have hgo : ∀ (w3 : World) g cap, w3.ownsRow w.heap.size 3 1 (.slice (some ⟨g, 0, none⟩) ((keptN off k).length + 1) cap) ((keptN off k).length + 1) (natl (keptN off k) ++ [.int .i64 (k : Int)]) → w3.ownsRow w.heap.size 3 1 (.slice (some ⟨g, 0, none⟩) ((keptN off k).length + 1) cap) (keptN off (k + 1)).length (natl (keptN off (k + 1))) := by
            intro w3 g cap h
            rw [keptN_yes hoff, natl_snoc, List.length_append]
            exact h
          have HG := Lib.hid hgo
          clear hgo
          generalize hgk : (keptN off k).length = gk at *
          clear hgk
          by_cases hkl2 : k < len
          · obtain ⟨b, hb⟩ : ∃ b, off[k]? = some b := ⟨_, List.getElem?_eq_getElem (by have := Hl.out; omega)⟩
            obtain rfl : b = false := by cases b; rfl; exact absurd hb hoff
            obtain ⟨B1, O1, rfl, _, hc⟩ := (HR.out.below H.out.2).addr (by omega)
            have e0 : wr.cell? ⟨B1, O1 + k, none⟩ = some (.bool false) := hc _ _ (booll_at hb)
            clear hoff hc hb
            go_wp2_with (first
              | (at_builtin
                 refine wpList_append_one rfl (.tmp 23) (.tmp 25) 45 rfl w.heap.size 3 i0 _ 8 Try.underlying45 hi0 hz0 hz1 hz2 rfl (.slice A5 gk a5) gk _ rfl H.out.1 wr.heap.size rfl _ rfl rfl h63 hby hsz ?_
                 intro g cap w3 own3 fr3 hat3 hlt3
                 have hng : ∀ q, (Value.slice A5 gk a5).ownBlock = some q → w.heap.size ≤ q := fun q e => (H.out.1.lt q e).1
                 have hbl3 := H.out.2.trans (fr3.below (B := w.heap.size) (fun q hq _ e => by have := hng _ e; omega) (by omega))
                 have H3 := Lib.hid (And.intro own3 hbl3)
                 clear own3 hbl3 fr3 hng))
            go_roundw
            case rel => exact ⟨k + 1, by go_num, hlt, HG.out _ _ _ H3.out.1, H3.out.2⟩
            case measure => simp [intOf]; omega
          · clear hoff
            go_wp2_with (first
              | (at_builtin
                 refine wpList_append_one rfl (.tmp 23) (.tmp 25) 45 rfl w.heap.size 3 i0 _ 8 Try.underlying45 hi0 hz0 hz1 hz2 rfl (.slice A5 gk a5) gk _ rfl H.out.1 wr.heap.size rfl _ rfl rfl h63 hby hsz ?_
                 intro g cap w3 own3 fr3 hat3 hlt3
                 have hng : ∀ q, (Value.slice A5 gk a5).ownBlock = some q → w.heap.size ≤ q := fun q e => (H.out.1.lt q e).1
                 have hbl3 := H.out.2.trans (fr3.below (B := w.heap.size) (fun q hq _ e => by have := hng _ e; omega) (by omega))
                 have H3 := Lib.hid (And.intro own3 hbl3)
                 clear own3 hbl3 fr3 hng))
            go_roundw
            case rel => exact ⟨k + 1, by go_num, hlt, HG.out _ _ _ H3.out.1, H3.out.2⟩
            case measure => simp [intOf]; omega
      · obtain rfl : k = m := by omega
        have t1 : ¬ (k : Int) < q := by omega
        have FI : FreshPost w 1 (keptN off k).length (natl (keptN off k)) (.returned (.slice A5 (keptN off k).length a5)) wr := ⟨_, rfl, own_row hown, hbl⟩
        have FI := Lib.hid FI
        clear hown hbl
        go_wp2
        go_ret
        exact FI.out
end Go.Proofs.Yteepfhdndhepmaa
