/-
  unite, plain: groups part the numbers. No program in sight.
-/
import Derived.Test.YtogbdilbbofdiaaUnN
namespace Go.Proofs.Ytogbdilbbofdiaa

theorem sorted_filter (p : Nat → Bool) (n : Nat) : ((List.range n).filter p).Pairwise (· < ·) := List.Pairwise.filter _ List.pairwise_lt_range
theorem sorted_at {l : List Nat} (h : l.Pairwise (· < ·)) {i j x y : Nat} (hij : i < j) (hi : l[i]? = some x) (hj : l[j]? = some y) : x < y := by
  obtain ⟨h1, h2⟩ := List.getElem?_eq_some_iff.1 hi
  obtain ⟨h3, h4⟩ := List.getElem?_eq_some_iff.1 hj
  have := List.pairwise_iff_getElem.1 h i j h1 h3 hij
  omega

theorem mem_grp {L : List Nat} {v l : Nat} (hv : v < L.length) (h : L[v]? = some l) : v ∈ grp L L.length l := by
  unfold grp
  rw [List.mem_filter, List.mem_range, h]
  exact ⟨hv, by simp⟩

/-- Group k is that of its least number. -/
theorem group_fact {L : List Nat} (hc : Canon L) {k : Nat} {r : List Nat} (h : (groups L)[k]? = some r) : ∃ l, (keysTo L L.length)[k]? = some l ∧ r = grp L L.length l ∧ r[0]? = some l ∧ L[l]? = some l := by
  unfold groups groupsTo at h
  rw [List.getElem?_map] at h
  cases e : (keysTo L L.length)[k]? with
  | none => rw [e] at h; cases h
  | some l =>
    rw [e] at h
    obtain rfl := (Option.some.inj h).symm
    have hl := mem_keysTo.1 (List.mem_of_getElem? e)
    refine ⟨l, rfl, rfl, ?_, hl.2⟩
    have hs := sorted_filter (fun i => L[i]? == some l) L.length
    have hm : l ∈ grp L L.length l := mem_grp hl.1 hl.2
    obtain ⟨j, hj⟩ := List.mem_iff_getElem?.1 hm
    have h0 : 0 < (grp L L.length l).length := List.length_pos_of_mem hm
    obtain ⟨x, hx⟩ : ∃ x, (grp L L.length l)[0]? = some x := ⟨_, List.getElem?_eq_getElem h0⟩
    have hxm := List.mem_of_getElem? hx
    simp only [grp, List.mem_filter, List.mem_range, beq_iff_eq] at hxm
    have hle := hc.le x l hxm.2
    rcases Nat.eq_zero_or_pos j with rfl | hj0
    · exact hj
    · have := sorted_at hs hj0 hx hj
      omega
theorem grp_fact {L : List Nat} {l j v : Nat} (h : (grp L L.length l)[j]? = some v) : v < L.length ∧ L[v]? = some l := by
  have := List.mem_of_getElem? h
  simpa [grp] using this

def mark (n : Nat) (P : List Nat) : List Int := (List.range n).map fun v => if v ∈ P then 1 else 0
theorem mark_nil (n : Nat) : mark n [] = List.replicate n 0 := by
  unfold mark
  apply List.ext_getElem?
  intro i
  rw [List.getElem?_map, List.getElem?_replicate]
  by_cases hi : i < n
  · rw [if_pos hi, List.getElem?_range hi]
    rfl
  · rw [if_neg hi, List.getElem?_eq_none (by simp; omega)]
    rfl
theorem mark_at {n v : Nat} (P : List Nat) (hv : v < n) : (mark n P)[v]? = some (if v ∈ P then 1 else 0) := by simp [mark, hv]
theorem mark_len (n : Nat) (P : List Nat) : (mark n P).length = n := by simp [mark]
theorem mark_set {n v : Nat} (P : List Nat) (hv : v < n) : (mark n P).set v 1 = mark n (P ++ [v]) := by
  apply List.ext_getElem?
  intro i
  rw [List.getElem?_set]
  by_cases hi : i < n
  · rw [mark_at _ hi, mark_at _ hi]
    by_cases e : v = i
    · subst e
      simp [mark_len, hv]
    · rw [if_neg e]
      have : i ≠ v := fun h => e h.symm
      simp [this]
  · have h1 : (mark n P)[i]? = none := List.getElem?_eq_none (by rw [mark_len]; omega)
    have h2 : (mark n (P ++ [v]))[i]? = none := List.getElem?_eq_none (by rw [mark_len]; omega)
    rw [h1, h2]
    split
    · rw [mark_len, if_neg (by omega)]
    · rfl

/-- What has been seen so far. -/
def seenTo (L : List Nat) (k : Nat) : List Nat := ((groups L).take k).flatten
theorem seenTo_succ {L : List Nat} {k : Nat} {r : List Nat} (h : (groups L)[k]? = some r) : seenTo L (k + 1) = seenTo L k ++ r := by
  unfold seenTo
  rw [List.take_add_one, h]
  simp
theorem not_seen {L : List Nat} (hc : Canon L) {k j v : Nat} {r : List Nat} (h : (groups L)[k]? = some r) (hj : r[j]? = some v) : v ∉ seenTo L k ++ r.take j := by
  obtain ⟨l, h1, rfl, h2, h3⟩ := group_fact hc h
  intro hm
  rw [List.mem_append] at hm
  rcases hm with hm | hm
  · unfold seenTo at hm
    rw [List.mem_flatten] at hm
    obtain ⟨r', hr', hv⟩ := hm
    obtain ⟨k', hk'⟩ := List.mem_iff_getElem?.1 hr'
    rw [List.getElem?_take] at hk'
    split at hk'
    · obtain ⟨l', h4, rfl, h5, h6⟩ := group_fact hc hk'
      obtain ⟨j', hj'⟩ := List.mem_iff_getElem?.1 hv
      have h7 := (grp_fact hj').2
      rw [(grp_fact hj).2] at h7
      obtain rfl := Option.some.inj h7
      have := nodup_at (keysTo_nodup L L.length) h1 h4
      omega
    · cases hk'
  · obtain ⟨j', hj'⟩ := List.mem_iff_getElem?.1 hm
    rw [List.getElem?_take] at hj'
    split at hj'
    · have := sorted_at (sorted_filter (fun i => L[i]? == some l) L.length) (by assumption) hj' hj
      omega
    · cases hj'
theorem all_seen {L : List Nat} (hc : Canon L) {v : Nat} (hv : v < L.length) : v ∈ seenTo L (groups L).length := by
  unfold seenTo
  rw [List.take_length, List.mem_flatten]
  obtain ⟨l, hl⟩ : ∃ l, L[v]? = some l := ⟨_, List.getElem?_eq_getElem hv⟩
  have hll := hc.idem v l hl
  refine ⟨grp L L.length l, ?_, mem_grp hv hl⟩
  unfold groups groupsTo
  rw [List.mem_map]
  exact ⟨l, mem_keysTo.2 ⟨(List.getElem?_eq_some_iff.1 hll).1, hll⟩, rfl⟩
theorem mark_full {L : List Nat} (hc : Canon L) {v : Nat} (hv : v < L.length) : (mark L.length (seenTo L (groups L).length))[v]? = some 1 := by
  rw [mark_at _ hv, if_pos (all_seen hc hv)]
theorem keys_up {L : List Nat} {k k' l l' : Nat} (hk : k < k') (h : (keysTo L L.length)[k]? = some l) (h' : (keysTo L L.length)[k']? = some l') : l < l' := sorted_at (sorted_filter _ _) hk h h'
theorem groupsI_at {L : List Nat} {k : Nat} {r : List Nat} (h : (groups L)[k]? = some r) : (groupsI L)[k]? = some (r.map Int.ofNat) := by
  unfold groupsI
  rw [List.getElem?_map, h]
  rfl
theorem groupsI_len' (L : List Nat) : (groupsI L).length = (groups L).length := by simp [groupsI]
end Go.Proofs.Ytogbdilbbofdiaa
