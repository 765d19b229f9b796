/-
  Instances, plain: what is left when nothing, a node, an arc is taken out. No program in sight.
-/
import Derived.Test.YteepfhdndhepmaaSqP
namespace Go.Proofs.Yteepfhdndhepmaa
def intsN (n : Nat) : List Int := (List.range n).map fun k : Nat => (k : Int)
theorem intsN_len (n : Nat) : (intsN n).length = n := by simp [intsN]
theorem intsN_at {n k : Nat} (h : k < n) : (intsN n)[k]? = some (k : Int) := by
  unfold intsN
  rw [List.getElem?_map, List.getElem?_range h]
  rfl
theorem keptI_all {off : List Bool} {m : Nat} (h : ∀ k, k < m → off.getD k false = false) : keptI off m = intsN m := by
  unfold keptI intsN
  rw [List.filter_eq_self.2]
  intro k hk
  rw [h k (List.mem_range.1 hk)]
  rfl
theorem idxI_ints {n : Nat} {v : Int} (h0 : 0 ≤ v) (h1 : v < n) : idxI (intsN n) v = v := by
  have h := idxI_some (l := intsN n) (n := v) (k := v.toNat) (by rw [intsN_at (by omega)]; congr 1; omega) (fun j hj => by
    rw [intsN_at (by omega)]
    intro e
    injection e with e
    omega)
  rw [h]
  omega
theorem pickI_ints {α : Type} {l : List α} {d : α} {n : Nat} (h : n ≤ l.length) : pickI l d (intsN n) = l.take n := by
  apply List.ext_getElem?
  intro k
  unfold pickI intsN
  rw [List.map_map, List.getElem?_map, List.getElem?_take]
  by_cases hk : k < n
  · rw [List.getElem?_range hk, if_pos hk, List.getElem?_eq_getElem (show k < l.length by omega)]
    simp only [Option.map_some, Function.comp, Int.toNat_natCast]
    rw [List.getD_eq_getElem?_getD, List.getElem?_eq_getElem (show k < l.length by omega)]
    rfl
  · rw [if_neg hk, List.getElem?_eq_none (by simp; omega)]
    rfl
theorem withoutA_ints {n : Nat} {l : List PArc} (h : ∀ a ∈ l, (0 ≤ a.fr ∧ a.fr < n) ∧ (0 ≤ a.dt ∧ a.dt < n)) : withoutA (intsN n) l = l := by
  unfold withoutA
  have e : l.map (mapI (intsN n)) = l := by
    rw [List.map_congr_left (g := id)]
    · simp
    · intro a ha
      obtain ⟨⟨h1, h2⟩, h3, h4⟩ := h a ha
      unfold mapI
      rw [idxI_ints h1 h2, idxI_ints h3 h4]
      rfl
  rw [e, List.filter_eq_self.2]
  intro a ha
  obtain ⟨⟨h1, h2⟩, h3, h4⟩ := h a ha
  simp [h1, h3]
/-- Nothing is taken out. -/
theorem withoutS_none {s : List Int} {nodes : List Bool} (hs : s.length ≤ 1000) (h : ∀ k, k < s.length → nodes.getD k false = false) : withoutS s nodes = s := by
  unfold withoutS leftI
  rw [Nat.min_eq_left hs, keptI_all h, pickI_ints (Nat.le_refl _), List.take_length]
/-- The last node, that nothing touches, is taken out. -/
theorem withoutS_last {s : List Int} {x : Int} {nodes : List Bool} (hs : s.length < 1000) (h : ∀ k, k < s.length → nodes.getD k false = false) (h1 : nodes.getD s.length false = true) : withoutS (s ++ [x]) nodes = s := by
  unfold withoutS leftI
  rw [show min (s ++ [x]).length 1000 = s.length + 1 by simp; omega, keptI_no h1, keptI_all h, pickI_ints (by simp), List.take_left' rfl]
theorem leftI_last {s : List Int} {x : Int} {nodes : List Bool} (hs : s.length < 1000) (h : ∀ k, k < s.length → nodes.getD k false = false) (h1 : nodes.getD s.length false = true) : leftI (s ++ [x]) nodes = intsN s.length := by
  unfold leftI
  rw [show min (s ++ [x]).length 1000 = s.length + 1 by simp; omega, keptI_no h1, keptI_all h]
theorem withoutL_last {s : List Int} {x : Int} {l : List PArc} {nodes : List Bool} (hs : s.length < 1000) (hl : l.length ≤ 1000) (h : ∀ k, k < s.length → nodes.getD k false = false) (h1 : nodes.getD s.length false = true) (ha : ∀ a ∈ l, (0 ≤ a.fr ∧ a.fr < s.length) ∧ (0 ≤ a.dt ∧ a.dt < s.length)) :
    withoutL (s ++ [x]) l nodes [] = l := by
  unfold withoutL
  rw [leftI_last hs h h1, Nat.min_eq_left hl, keptI_all (off := []) (by simp), pickI_ints (Nat.le_refl _), List.take_length, withoutA_ints ha]
theorem withoutL_none {s : List Int} {l : List PArc} {nodes arcs : List Bool} (hs : s.length ≤ 1000) (hl : l.length ≤ 1000) (h : ∀ k, k < s.length → nodes.getD k false = false) (h2 : ∀ k, k < l.length → arcs.getD k false = false) (ha : ∀ a ∈ l, (0 ≤ a.fr ∧ a.fr < s.length) ∧ (0 ≤ a.dt ∧ a.dt < s.length)) :
    withoutL s l nodes arcs = l := by
  unfold withoutL leftI
  rw [Nat.min_eq_left hs, keptI_all h, Nat.min_eq_left hl, keptI_all h2, pickI_ints (Nat.le_refl _), List.take_length, withoutA_ints ha]
theorem pickI_append {α : Type} (l : List α) (d : α) (a b : List Int) : pickI l d (a ++ b) = pickI l d a ++ pickI l d b := by simp [pickI]
/-- One arc is taken out. -/
theorem pickI_one {l : List PArc} {arcs : List Bool} {k : Nat} (hk : k < l.length) (hl : l.length ≤ 1000) (h : ∀ j, j < l.length → arcs.getD j false = decide (j = k)) : pickI l arcZ (keptI arcs l.length) = l.take k ++ l.drop (k + 1) := by
  have key : ∀ m, m ≤ l.length → pickI l arcZ (keptI arcs m) = if m ≤ k then l.take m else l.take k ++ (l.take m).drop (k + 1) := by
    intro m
    induction m with
    | zero => intro _; simp [keptI, pickI]
    | succ m ih =>
      intro hm
      have hb := h m (by omega)
      by_cases hmk : m = k
      · subst hmk
        rw [keptI_no (by rw [hb]; simp), ih (by omega), if_pos (Nat.le_refl _), if_neg (by omega), List.drop_of_length_le (by simp; omega), List.append_nil]
      · rw [keptI_yes (by rw [hb]; simp [hmk]), pickI_append, ih (by omega)]
        have e : pickI l arcZ [(m : Int)] = [l[m]] := by
          simp only [pickI, List.map_cons, List.map_nil, Int.toNat_natCast]
          rw [List.getD_eq_getElem?_getD, List.getElem?_eq_getElem (by omega)]
          rfl
        rw [e]
        by_cases hlt : m < k
        · rw [if_pos (by omega), if_pos (by omega), List.take_add_one, List.getElem?_eq_getElem (by omega)]
          rfl
        · rw [if_neg (by omega), if_neg (by omega), List.append_assoc]
          congr 1
          rw [List.take_add_one, List.getElem?_eq_getElem (show m < l.length by omega), List.drop_append_of_le_length (by simp; omega)]
          rfl
  rw [key _ (Nat.le_refl _), if_neg (by omega), List.take_length]
theorem withoutL_one {s : List Int} {l : List PArc} {arcs : List Bool} {k : Nat} (hs : s.length ≤ 1000) (hk : k < l.length) (hl : l.length ≤ 1000) (h : ∀ j, j < l.length → arcs.getD j false = decide (j = k)) (ha : ∀ a ∈ l, (0 ≤ a.fr ∧ a.fr < s.length) ∧ (0 ≤ a.dt ∧ a.dt < s.length)) :
    withoutL s l [] arcs = l.take k ++ l.drop (k + 1) := by
  unfold withoutL leftI
  rw [Nat.min_eq_left hs, keptI_all (off := []) (by simp), Nat.min_eq_left hl, pickI_one hk hl h, withoutA_ints]
  intro a h1
  refine ha a ?_
  rcases List.mem_append.1 h1 with h | h
  · exact List.mem_of_mem_take h
  · exact List.mem_of_mem_drop h
theorem spanN_append (l m : List PArc) : spanN (l ++ m) = spanN l + spanN m := by simp [spanN]
theorem spanN_split {l : List PArc} {k : Nat} {a : PArc} (h : l[k]? = some a) : spanN l = spanN (l.take k ++ l.drop (k + 1)) + if a.lo ≠ 0 then 1 else 0 := by
  have e : l = l.take k ++ a :: l.drop (k + 1) := by rw [← drop_at h, List.take_append_drop]
  have h1 : spanN l = spanN (l.take k) + spanN (a :: l.drop (k + 1)) := by rw [← spanN_append, ← e]
  rw [h1, spanN_append]
  simp only [spanN, List.countP_cons]
  by_cases h0 : a.lo = 0 <;> simp [h0] <;> omega
end Go.Proofs.Yteepfhdndhepmaa
