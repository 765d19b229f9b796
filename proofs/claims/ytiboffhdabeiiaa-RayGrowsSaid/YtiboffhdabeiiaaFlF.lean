/-
  flow: plain laws: what a node sends, and what one more does to it.
-/
import Derived.Test.YtiboffhdabeiiaaFlE
namespace Go.Proofs.Ytiboffhdabeiiaa
open Go Go.RowKit
def netV (v : Nat) (l : List PArc) (x : List Int) : Nat → Int
  | 0 => 0
  | k + 1 => match l[k]? with
    | some a => netV v l x k + (if a.fr.toNat = v then x.getD k 0 else 0) - (if a.dt.toNat = v then x.getD k 0 else 0)
    | none => netV v l x k
theorem netV_succ {v : Nat} {l : List PArc} {x : List Int} {k : Nat} {a : PArc} (h : l[k]? = some a) : netV v l x (k + 1) = netV v l x k + (if a.fr.toNat = v then x.getD k 0 else 0) - (if a.dt.toNat = v then x.getD k 0 else 0) := by rw [netV, h]
theorem set_getD (L : List Int) (i v : Nat) (w : Int) (hv : v < L.length) : (L.set i w).getD v 0 = if i = v then w else L.getD v 0 := by
  rw [List.getD_eq_getElem?_getD, List.getElem?_set, List.getD_eq_getElem?_getD]
  by_cases h : i = v
  · subst h
    rw [if_pos rfl, if_pos rfl, if_pos hv]
    rfl
  · rw [if_neg h, if_neg h]
theorem addAt_getD (L : List Int) (i v : Nat) (w : Int) (hv : v < L.length) : (addAt L i w).getD v 0 = L.getD v 0 + if i = v then w else 0 := by
  unfold addAt
  rw [set_getD _ _ _ _ hv]
  by_cases h : i = v
  · subst h
    rw [if_pos rfl, if_pos rfl]
  · rw [if_neg h, if_neg h]; omega
theorem netN_getD {N v : Nat} {l : List PArc} {x : List Int} (hv : v < N) (hw : ∀ a ∈ l, wholeB N a = true) (k : Nat) : (netN N l x k).getD v 0 = netV v l x k := by
  induction k with
  | zero =>
    show (List.replicate N (0 : Int)).getD v 0 = 0
    rw [List.getD_eq_getElem?_getD, List.getElem?_replicate, if_pos hv]
    rfl
  | succ k ih =>
    rcases Nat.lt_or_ge k l.length with h | h
    · obtain ⟨a, ha⟩ := at_ h
      rw [netN_succ ha, netV_succ ha, netStep, if_pos (hw a (List.mem_of_getElem? ha)), addAt_getD _ _ _ _ (by rw [addAt_len, netN_len]; exact hv), addAt_getD _ _ _ _ (by rw [netN_len]; exact hv), ih]
      split <;> split <;> omega
    · have hn : l[k]? = none := List.getElem?_eq_none h
      rw [netN, netV, hn]
      exact ih
theorem netV_set {v p : Nat} {l : List PArc} {x : List Int} {A : PArc} {n m : Int} (hA : l[p]? = some A) (hx : x.length = l.length) (hn : x[p]? = some n) (k : Nat) (hk : k ≤ l.length) :
    netV v l (x.set p m) k = netV v l x k + if p < k then (if A.fr.toNat = v then m - n else 0) - (if A.dt.toNat = v then m - n else 0) else 0 := by
  induction k with
  | zero => simp [netV]
  | succ k ih =>
    obtain ⟨a, ha⟩ := at_ (l := l) (k := k) (by omega)
    have ih := ih (by omega)
    rw [netV_succ ha, netV_succ ha, ih, set_getD _ _ _ _ (by omega)]
    by_cases hpk : p = k
    · subst hpk
      rw [hA] at ha
      injection ha with ha
      subst ha
      have hg : x.getD p 0 = n := by rw [List.getD_eq_getElem?_getD, hn]; rfl
      rw [if_neg (Nat.lt_irrefl p), if_pos (Nat.lt_succ_self p), hg, if_pos rfl]
      split <;> split <;> omega
    · rw [if_neg hpk]
      by_cases hlt : p < k
      · rw [if_pos hlt, if_pos (show p < k + 1 by omega)]; omega
      · rw [if_neg hlt, if_neg (show ¬ p < k + 1 by omega)]; omega
theorem zall {α β : Type} {f : α × β → Bool} {l : List α} {m : List β} : (l.zip m).all f = true ↔ ∀ (k : Nat) (a : α) (b : β), l[k]? = some a → m[k]? = some b → f (a, b) = true := by
  rw [List.all_eq_true]
  constructor
  · intro h k a b h1 h2
    exact h _ (List.mem_of_getElem? (zip_at h1 h2))
  · intro h p hp
    obtain ⟨k, hk⟩ := List.mem_iff_getElem?.1 hp
    obtain ⟨h1, h2⟩ := List.getElem?_zip_eq_some.1 hk
    exact h k p.1 p.2 h1 h2
theorem netB_iff {s : List Int} {l : List PArc} {x : List Int} (hw : ∀ a ∈ l, wholeB s.length a = true) : netB s l x = true ↔ ∀ v, v < s.length → cn (netV v l x l.length) = cn (s.getD v 0) := by
  unfold netB
  rw [zall]
  have hg := fun v (hv : v < s.length) => netN_getD (x := x) hv hw l.length
  constructor
  · intro h v hv
    obtain ⟨u, hu⟩ := at_ (l := netN s.length l x l.length) (k := v) (by rw [netN_len]; exact hv)
    obtain ⟨w, hw2⟩ := at_ hv
    have h3 := of_decide_eq_true (h v u w hu hw2)
    have h4 := hg v hv
    rw [List.getD_eq_getElem?_getD, hu] at h4
    rw [← h4, List.getD_eq_getElem?_getD, hw2]
    exact h3
  · intro h k a b h1 h2
    have hk := (List.getElem?_eq_some_iff.1 h2).1
    have h3 := h k hk
    have h4 := hg k hk
    rw [List.getD_eq_getElem?_getD, h1] at h4
    rw [← h4, List.getD_eq_getElem?_getD, h2] at h3
    exact decide_eq_true h3
theorem fitsN_zero {s : List Int} {l : List PArc} {x : List Int} (h : fitsN s l x = 0) : rightN s l = 0 ∧ x.length = l.length ∧ flowB l x = true ∧ netB s l x = true := by
  unfold fitsN at h
  by_cases h1 : rightN s l = 0
  · rw [if_neg (by simpa using h1)] at h
    by_cases h2 : x.length = l.length
    · rw [if_neg (by simpa using h2)] at h
      cases h3 : flowB l x
      · rw [if_pos h3] at h; cases h
      · rw [if_neg (by simp [h3])] at h
        cases h4 : netB s l x
        · rw [if_pos h4] at h; cases h
        · exact ⟨h1, h2, rfl, rfl⟩
    · rw [if_pos h2] at h; cases h
  · rw [if_pos h1] at h; exact absurd h h1
theorem fitsN_long {s : List Int} {l : List PArc} {x : List Int} (h : fitsN s l x = 0) : fitsN s l (x ++ [0]) = 30 := by
  obtain ⟨h1, h2, h3, h4⟩ := fitsN_zero h
  unfold fitsN
  rw [if_neg (by simpa using h1), if_pos (by simp; omega)]
/-- One more along an arc. -/
theorem fitsN_more {s : List Int} {l : List PArc} {x : List Int} {p : Nat} {A : PArc} {n : Int} (hw : ∀ a ∈ l, wholeB s.length a = true) (h : fitsN s l x = 0) (hA : l[p]? = some A) (hn : x[p]? = some n) :
    fitsN s l (x.set p (n + 1)) = if A.ca ≠ 4611686018427387904 ∧ A.ca = n then 31 else if A.fr = A.dt then 0 else 32 := by
  obtain ⟨h1, h2, h3, h4⟩ := fitsN_zero h
  have hp := (List.getElem?_eq_some_iff.1 hn).1
  have hfit := zall.1 h3
  have hfA := hfit p A n hA hn
  simp only [fitB, decide_eq_true_eq] at hfA
  have hset : (x.set p (n + 1))[p]? = some (n + 1) := List.getElem?_set_self hp
  have hl2 : (x.set p (n + 1)).length = l.length := by rw [List.length_set, h2]
  unfold fitsN
  rw [if_neg (by simpa using h1), if_neg (by simpa using hl2)]
  by_cases hc : A.ca ≠ 4611686018427387904 ∧ A.ca = n
  · have hf : flowB l (x.set p (n + 1)) = false := by
      cases hb : flowB l (x.set p (n + 1))
      · rfl
      · have := zall.1 hb p A (n + 1) hA hset
        simp only [fitB, decide_eq_true_eq] at this
        omega
    rw [if_pos hf, if_pos hc]
  · have hf : flowB l (x.set p (n + 1)) = true := by
      refine zall.2 fun k a m ha hm => ?_
      by_cases hk : p = k
      · subst hk
        rw [hset] at hm
        injection hm with hm
        subst hm
        rw [hA] at ha
        injection ha with ha
        subst ha
        simp only [fitB, decide_eq_true_eq]
        omega
      · rw [List.getElem?_set_ne hk] at hm
        exact hfit k a m ha hm
    rw [if_neg (by simp [hf]), if_neg hc]
    have hplt : p < l.length := by omega
    have hv := fun v => netV_set (v := v) (m := n + 1) hA h2 hn l.length (Nat.le_refl _)
    have hwA := hw A (List.mem_of_getElem? hA)
    simp only [wholeB, decide_eq_true_eq] at hwA
    by_cases hd : A.fr = A.dt
    · rw [if_pos hd, if_neg]
      rw [Bool.not_eq_false]
      refine (netB_iff hw).2 fun v hvs => ?_
      rw [hv v, if_pos hplt, hd, ← (netB_iff hw).1 h4 v hvs]
      congr 1
      omega
    · rw [if_neg hd, if_pos]
      cases hb : netB s l (x.set p (n + 1))
      · rfl
      · have e1 := (netB_iff hw).1 hb A.fr.toNat (by omega)
        have e2 := (netB_iff hw).1 h4 A.fr.toNat (by omega)
        rw [hv, if_pos hplt, if_pos rfl, if_neg (by omega), ← e2] at e1
        unfold cn at e1
        omega
end Go.Proofs.Ytiboffhdabeiiaa
