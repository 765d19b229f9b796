/-
  cut: plain laws of needs and sides.
-/
import Derived.Test.YtiboffhdabeiiaaCtE
import Derived.Test.YtiboffhdabeiiaaFlJ
namespace Go.Proofs.Ytiboffhdabeiiaa
open Go Go.RowKit
theorem sumL_eq (l : List Int) : sumL l = l.sum := by
  have : ∀ (l : List Int) (t : Int), l.foldl (· + ·) t = t + l.sum := by
    intro l
    induction l with
    | nil => intro t; simp
    | cons a l ih => intro t; rw [List.foldl_cons, ih, List.sum_cons]; omega
  unfold sumL
  rw [this]
  omega
theorem moveS_sum {s : List Int} {i j : Nat} {x : Int} (hi : i < s.length) (hj : j < s.length) : (moveS s i j x).sum = s.sum := by
  unfold moveS
  rw [sum_set _ _ _ (by simpa using hj), sum_set _ _ _ hi]
  omega
theorem supTo_sum (c d : List Nat) (k : Nat) (hk : k ≤ (arcsN c (nOf d)).length) : (supTo d (arcsN c (nOf d)) (nOf d) k).sum = 0 := by
  induction k with
  | zero => exact sum_zeros _
  | succ k ih =>
    obtain ⟨a, ha⟩ := at_ (l := arcsN c (nOf d)) (k := k) (by omega)
    have hn := nOf_range d
    have hm := arcsN_mem (c := c) (n := nOf d) (a := a) (by omega) (List.mem_of_getElem? ha)
    rw [supTo_step ha, moveS_sum (by rw [supTo_len]; omega) (by rw [supTo_len]; omega), ih (by omega)]
theorem instS_sum (c d : List Nat) : (instS c d).sum = 0 := by
  have hn := nOf_range d
  rw [instS_def]
  split
  · rw [moveS_sum (by rw [supTo_len]; omega) (by rw [supTo_len]; omega), supTo_sum c d _ (Nat.le_refl _)]
  · exact supTo_sum c d _ (Nat.le_refl _)
theorem wrong_inst {c d : List Nat} {a : PArc} (h : a ∈ arcsN c (nOf d)) : wrongN a (nOf d) = 0 := by
  have hn := nOf_range d
  have h1 := arcsN_mem (c := c) (n := nOf d) (a := a) (by omega) h
  have h2 := arcsN_cap (c := c) (n := nOf d) (a := a) h
  unfold wrongN nodeB inB
  rw [if_pos (by simp; omega), if_neg (by simp; omega), if_pos (by simp; omega)]
theorem right_inst (c d : List Nat) : rightN (instS c d) (arcsN c (nOf d)) = 0 := by
  have hn := nOf_range d
  have hb := instS_bnd c d
  have hl := instS_len c d
  have hal := arcsN_len c (nOf d)
  refine rightN_zero (by omega) (by omega) (fun a h => by rw [hl]; exact wrong_inst h) (fun n h => ?_) (instS_sum c d)
  have := hb n h
  simp [inB]
  omega
/-- Needs of a side and of the other one are all. -/
theorem need_both {side other : List Bool} {s : List Int} (h : ∀ k, k < s.length → sd other k = !sd side k) (k : Nat) (hk : k ≤ s.length) : (needL side s k).sum + (needL other s k).sum = (s.take k).sum := by
  induction k with
  | zero => simp [needL]
  | succ k ih =>
    obtain ⟨u, hu⟩ := at_ (l := s) (k := k) (by omega)
    have ho := h k (by omega)
    have := ih (by omega)
    rw [needL_succ hu, needL_succ hu, ho, take_snoc hu]
    cases sd side k <;> simp <;> omega
theorem need_none {side : List Bool} {s : List Int} (h : ∀ k, k < s.length → sd side k = false) (k : Nat) (hk : k ≤ s.length) : needL side s k = [] := by
  induction k with
  | zero => rfl
  | succ k ih =>
    obtain ⟨u, hu⟩ := at_ (l := s) (k := k) (by omega)
    rw [needL_succ hu, h k (by omega), ih (by omega)]
    rfl
theorem need_all {side : List Bool} {s : List Int} (h : ∀ k, k < s.length → sd side k = true) (k : Nat) (hk : k ≤ s.length) : needL side s k = s.take k := by
  induction k with
  | zero => rfl
  | succ k ih =>
    obtain ⟨u, hu⟩ := at_ (l := s) (k := k) (by omega)
    rw [needL_succ hu, h k (by omega), ih (by omega), take_snoc hu]
    rfl
/-- A side with all nodes, or none. -/
theorem crs_flat {side : List Bool} {N : Nat} {b : Bool} (h : ∀ k, k < N → sd side k = b) (a : PArc) : crs N side a = false := by
  unfold crs
  cases hw : wholeB N a with
  | false => rfl
  | true =>
    simp only [wholeB, decide_eq_true_eq] at hw
    rw [h _ (by omega), h _ (by omega)]
    cases b <;> rfl
theorem room_flat {side : List Bool} {N : Nat} {b : Bool} (h : ∀ k, k < N → sd side k = b) (l : List PArc) (k : Nat) : roomV N side l k = 0 := by
  induction k with
  | zero => rfl
  | succ k ih =>
    unfold roomV
    split
    · rw [ih, roomA, crs_flat h]
      rfl
    · exact ih
theorem proves_flat {s : List Int} {l : List PArc} {side : List Bool} {b : Bool} (hr : rightN s l = 0) (hs : s.sum = 0) (hl : side.length = s.length) (h : ∀ k, k < s.length → sd side k = b) : provesN s l side = 34 := by
  unfold provesN
  have hn : needV side s = 0 := by
    unfold needV
    cases b with
    | false => rw [need_none h _ (Nat.le_refl _)]; rfl
    | true => rw [need_all h _ (Nat.le_refl _), sumL_eq, List.take_length, hs]
  rw [if_neg (by simpa using hr), if_neg (by simpa using hl)]
  split
  · rfl
  · rw [hn, room_flat h, if_pos (Int.le_refl _)]
theorem sd_other {side : List Bool} {n k : Nat} (hk : k < n) (hn : n ≤ 1000) : sd (otherN side n) k = !sd side k := by
  refine sd_at ?_
  unfold otherN otherTo
  rw [Nat.min_eq_left hn, List.getElem?_map, List.getElem?_range hk]
  rfl
theorem other_other {side : List Bool} {n : Nat} (hl : side.length = n) (hn : n ≤ 1000) : otherN (otherN side n) n = side := by
  apply List.ext_getElem?
  intro k
  by_cases hk : k < n
  · obtain ⟨b, hb⟩ := at_ (l := side) (k := k) (by omega)
    unfold otherN
    rw [Nat.min_eq_left hn]
    unfold otherTo
    rw [List.getElem?_map, List.getElem?_range hk, hb]
    have := sd_other (side := side) hk hn
    unfold otherN at this
    rw [Nat.min_eq_left hn] at this
    unfold otherTo at this
    rw [Option.map_some, this, sd_at hb, Bool.not_not]
  · rw [List.getElem?_eq_none (l := side) (by omega), List.getElem?_eq_none (by unfold otherN; rw [otherTo_len]; omega)]
end Go.Proofs.Ytiboffhdabeiiaa
