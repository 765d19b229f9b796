/-
  Instances, plain: what is asked step by step. No program in sight.
-/
import Derived.Test.YtiboffhdabeiiaaInP
namespace Go.Proofs.Ytiboffhdabeiiaa

theorem drop_at {α : Type} {l : List α} {k : Nat} {a : α} (h : l[k]? = some a) : l.drop k = a :: l.drop (k + 1) := by
  obtain ⟨h1, h2⟩ := List.getElem?_eq_some_iff.1 h
  rw [List.drop_eq_getElem_cons h1, h2]
theorem at_ {α : Type} {l : List α} {k : Nat} (h : k < l.length) : ∃ a, l[k]? = some a := ⟨_, List.getElem?_eq_getElem h⟩
theorem take_at {α : Type} {l : List α} {k : Nat} {a : α} (h : l[k]? = some a) : l.take (k + 1) = l.take k ++ [a] := by
  rw [List.take_add_one, h]
  rfl
theorem getD_at {α : Type} {l : List α} {k : Nat} {a d : α} (h : l[k]? = some a) : l.getD k d = a := by
  rw [List.getD_eq_getElem?_getD, h]
  rfl
theorem arcsBad_step {n k : Nat} {l : List PArc} {a : PArc} (h : l[k]? = some a) : arcsBad n (l.drop k) = if wrongN a n = 0 then arcsBad n (l.drop (k + 1)) else wrongN a n := by
  rw [drop_at h]
  rfl
theorem supBad_step {k : Nat} {s : List Int} {x sum : Int} (h : s[k]? = some x) : supBad (s.drop k) sum = if inB x then supBad (s.drop (k + 1)) (sum + x) else 24 := by
  rw [drop_at h]
  rfl
theorem eq_step {α : Type} [DecidableEq α] {l m : List α} {k : Nat} {a b : α} (ha : l[k]? = some a) (hb : m[k]? = some b) : decide (l.drop k = m.drop k) = (decide (a = b) && decide (l.drop (k + 1) = m.drop (k + 1))) := by
  rw [drop_at ha, drop_at hb, Bool.eq_iff_iff]
  simp

/-- The numbers below m that are not off. -/
def keptI (off : List Bool) (m : Nat) : List Int := ((List.range m).filter fun k => !off.getD k false).map fun k : Nat => (k : Int)
theorem keptI_yes {off : List Bool} {m : Nat} (h : off.getD m false = false) : keptI off (m + 1) = keptI off m ++ [(m : Int)] := by
  have e : [m].filter (fun k => !off.getD k false) = [m] := by simp only [List.filter_cons, h, Bool.not_false, if_true, List.filter_nil]
  unfold keptI
  rw [List.range_succ, List.filter_append, List.map_append, e]
  rfl
theorem keptI_no {off : List Bool} {m : Nat} (h : off.getD m false = true) : keptI off (m + 1) = keptI off m := by
  have e : [m].filter (fun k => !off.getD k false) = [] := by simp only [List.filter_cons, h, Bool.not_true, Bool.false_eq_true, if_false, List.filter_nil]
  unfold keptI
  rw [List.range_succ, List.filter_append, List.map_append, e]
  simp
theorem keptI_len (off : List Bool) (m : Nat) : (keptI off m).length ≤ m := by
  unfold keptI
  rw [List.length_map]
  exact Nat.le_trans (List.length_filter_le _ _) (by simp)
theorem keptI_lt {off : List Bool} {m : Nat} {k : Int} (h : k ∈ keptI off m) : 0 ≤ k ∧ k < m := by
  unfold keptI at h
  simp only [List.mem_map, List.mem_filter, List.mem_range] at h
  obtain ⟨j, ⟨h1, _⟩, rfl⟩ := h
  omega
/-- A number's place in a list; -1: none. -/
def idxI (l : List Int) (n : Int) : Int := match l.findIdx? (fun x => x == n) with
  | some i => i
  | none => -1
theorem idxI_none {l : List Int} {n : Int} (h : ∀ k, k < l.length → l[k]? ≠ some n) : idxI l n = -1 := by
  unfold idxI
  rw [List.findIdx?_eq_none_iff.2]
  intro x hx
  obtain ⟨k, hk, rfl⟩ := List.getElem_of_mem hx
  have := h k hk
  rw [List.getElem?_eq_getElem hk] at this
  simpa using this
theorem idxI_some {l : List Int} {n : Int} {k : Nat} (hk : l[k]? = some n) (h : ∀ j, j < k → l[j]? ≠ some n) : idxI l n = k := by
  obtain ⟨hlt, he⟩ := List.getElem?_eq_some_iff.1 hk
  have : l.findIdx? (fun x => x == n) = some k := by
    rw [List.findIdx?_eq_some_iff_getElem]
    refine ⟨hlt, by simp [he], fun j hj => ?_⟩
    have := h j hj
    rw [List.getElem?_eq_getElem (by omega)] at this
    simpa using this
  unfold idxI
  rw [this]
theorem idxI_range (l : List Int) (n : Int) : -1 ≤ idxI l n ∧ idxI l n < l.length ∨ idxI l n = -1 := by
  unfold idxI
  split
  · rename_i i h
    have := (List.findIdx?_eq_some_iff_getElem.1 h).1
    omega
  · omega
/-- Some of a list, by places. -/
def pickI {α : Type} (l : List α) (d : α) (at_ : List Int) : List α := at_.map fun k => l.getD k.toNat d
theorem pickI_len {α : Type} (l : List α) (d : α) (at_ : List Int) : (pickI l d at_).length = at_.length := by simp [pickI]
theorem pickI_step {α : Type} {l : List α} {d : α} {at_ : List Int} {k : Nat} {j : Int} (h : at_[k]? = some j) : pickI l d (at_.take (k + 1)) = pickI l d (at_.take k) ++ [l.getD j.toNat d] := by
  rw [take_at h]
  simp [pickI]

/-- An instance without some nodes, some arcs. -/
def mapI (left : List Int) (a : PArc) : PArc := ⟨idxI left a.fr, idxI left a.dt, a.lo, a.ca, a.co⟩
def withoutA (left : List Int) (l : List PArc) : List PArc := (l.map (mapI left)).filter fun a => decide (0 ≤ a.fr) && decide (0 ≤ a.dt)
def leftI (s : List Int) (nodes : List Bool) : List Int := keptI nodes (min s.length 1000)
def withoutS (s : List Int) (nodes : List Bool) : List Int := pickI s 0 (leftI s nodes)
def arcZ : PArc := ⟨0, 0, 0, 0, 0⟩
def withoutL (s : List Int) (l : List PArc) (nodes arcs : List Bool) : List PArc := withoutA (leftI s nodes) (pickI l arcZ (keptI arcs (min l.length 1000)))
theorem withoutA_step {left : List Int} {l : List PArc} {k : Nat} {a : PArc} (h : l[k]? = some a) : withoutA left (l.take (k + 1)) = withoutA left (l.take k) ++ if decide (0 ≤ idxI left a.fr) && decide (0 ≤ idxI left a.dt) then [mapI left a] else [] := by
  unfold withoutA
  rw [List.take_add_one, h, List.map_append, List.filter_append]
  congr 1
  simp only [Option.toList_some, List.map_cons, List.map_nil, List.filter_cons, List.filter_nil, mapI]
theorem withoutA_yes {left : List Int} {l : List PArc} {k : Nat} {a : PArc} (h : l[k]? = some a) (h1 : 0 ≤ idxI left a.fr) (h2 : 0 ≤ idxI left a.dt) : withoutA left (l.take (k + 1)) = withoutA left (l.take k) ++ [⟨idxI left a.fr, idxI left a.dt, a.lo, a.ca, a.co⟩] := by
  rw [withoutA_step h]
  simp [h1, h2, mapI]
theorem withoutA_no {left : List Int} {l : List PArc} {k : Nat} {a : PArc} (h : l[k]? = some a) (h1 : ¬ (0 ≤ idxI left a.fr ∧ 0 ≤ idxI left a.dt)) : withoutA left (l.take (k + 1)) = withoutA left (l.take k) := by
  rw [withoutA_step h, if_neg (by simpa using h1), List.append_nil]
theorem withoutA_len (left : List Int) (l : List PArc) : (withoutA left l).length ≤ l.length := by
  unfold withoutA
  exact Nat.le_trans (List.length_filter_le _ _) (by simp)
theorem leftI_lt {s : List Int} {nodes : List Bool} {k : Int} (h : k ∈ leftI s nodes) : 0 ≤ k ∧ k < s.length := by have := keptI_lt h; omega
theorem leftI_len (s : List Int) (nodes : List Bool) : (leftI s nodes).length ≤ 1000 := by have := keptI_len nodes (min s.length 1000); unfold leftI; omega
end Go.Proofs.Ytiboffhdabeiiaa
