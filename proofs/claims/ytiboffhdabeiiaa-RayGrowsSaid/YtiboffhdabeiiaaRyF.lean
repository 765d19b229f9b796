/-
  Chapter 12: plain laws of rings.
-/
import Derived.Test.YtiboffhdabeiiaaRyE
import Derived.Test.YtiboffhdabeiiaaCtF
namespace Go.Proofs.Ytiboffhdabeiiaa
open Go Go.RowKit
/-- Arcs that go round, behind others. -/
def RingAt (b m : Nat) (A : List PArc) : Prop := b + m ≤ A.length ∧ ∀ j, j < m → ∃ a, A[b + j]? = some a ∧ a.fr = (j : Int) ∧ a.dt = ((j : Int) + 1) % (m : Int)
theorem rIdx_at {b m j : Nat} (h : j < m) : (rIdx b m)[j]? = some ((b + j : Nat) : Int) := by
  unfold rIdx
  rw [List.getElem?_map, List.getElem?_range h]
  rfl
theorem rArc_nat (A : List PArc) (k : Nat) : rArc A (k : Int) = A.getD k ⟨0, 0, 0, 0, 0⟩ := rfl
theorem ring_arc {b m : Nat} {A : List PArc} (h : RingAt b m A) {j : Nat} (hj : j < m) : (rArc A ((b + j : Nat) : Int)).fr = (j : Int) ∧ (rArc A ((b + j : Nat) : Int)).dt = ((j : Int) + 1) % (m : Int) := by
  obtain ⟨a, h1, h2, h3⟩ := h.2 j hj
  rw [rArc_nat, getD_at h1]
  exact ⟨h2, h3⟩
theorem ring_set {b m k : Nat} {A : List PArc} {a a' : PArc} (h : RingAt b m A) (hk : A[k]? = some a) (h1 : a'.fr = a.fr) (h2 : a'.dt = a.dt) : RingAt b m (A.set k a') := by
  refine ⟨by simpa using h.1, fun j hj => ?_⟩
  obtain ⟨q, e1, e2, e3⟩ := h.2 j hj
  have hkl := (List.getElem?_eq_some_iff.1 hk).1
  by_cases e : k = b + j
  · subst e
    rw [hk] at e1
    injection e1 with e1
    subst e1
    exact ⟨a', List.getElem?_set_self hkl, by rw [h1, e2], by rw [h2, e3]⟩
  · exact ⟨q, by rw [List.getElem?_set_ne e]; exact e1, e2, e3⟩
/-- The list of a way round, begun elsewhere. -/
def rotI (b m t k : Nat) : List Int := (List.range k).map fun q => ((b + (t + q) % m : Nat) : Int)
theorem rotI_cons (b m t k : Nat) : rotI b m t (k + 1) = ((b + t % m : Nat) : Int) :: rotI b m (t + 1) k := by
  unfold rotI
  rw [List.range_succ_eq_map, List.map_cons, List.map_map]
  congr 1
  apply List.map_congr_left
  intro q _
  simp only [Function.comp, Nat.succ_eq_add_one]
  rw [show t + (q + 1) = t + 1 + q by omega]
theorem rotI_len (b m t k : Nat) : (rotI b m t k).length = k := by simp [rotI]
theorem rotI_at {b m t k q : Nat} (h : q < k) : (rotI b m t k)[q]? = some ((b + (t + q) % m : Nat) : Int) := by
  unfold rotI
  rw [List.getElem?_map, List.getElem?_range h]
  rfl
theorem chain_rot {b m : Nat} {A : List PArc} (h : RingAt b m A) (hm : 0 < m) : ∀ (k t : Nat), chainB A ((t % m : Nat) : Int) (rotI b m t k) = true := by
  intro k
  induction k with
  | zero => intro t; rfl
  | succ k ih =>
    intro t
    obtain ⟨h1, h2⟩ := ring_arc h (j := t % m) (Nat.mod_lt _ hm)
    rw [rotI_cons, chainB, if_pos h1, h2]
    have := ih (t + 1)
    rwa [show (((t + 1) % m : Nat) : Int) = (((t % m : Nat) : Int) + 1) % (m : Int) by rw [Int.natCast_emod, Int.natCast_emod, Int.natCast_add, Int.emod_add_emod]; rfl] at this
theorem rot_eq {b m t : Nat} (ht : t < m) : (rIdx b m).drop t ++ (rIdx b m).take t = rotI b m t m := by
  apply List.ext_getElem?
  intro q
  have hl := rIdx_len b m
  by_cases hq : q < m
  · rw [rotI_at hq]
    by_cases h : q < m - t
    · rw [List.getElem?_append_left (by simp; omega), List.getElem?_drop, rIdx_at (by omega), Nat.mod_eq_of_lt (by omega)]
    · rw [List.getElem?_append_right (by simp; omega), List.getElem?_take, if_pos (by simp; omega), rIdx_at (by simp; omega)]
      congr 3
      rw [Nat.mod_eq_sub_mod (by omega), Nat.mod_eq_of_lt (by omega)]
      simp
      omega
  · rw [List.getElem?_eq_none (by simp; omega), List.getElem?_eq_none (by rw [rotI_len]; omega)]
theorem rot_zero (b m : Nat) (hm : 0 < m) : rIdx b m = rotI b m 0 m := by
  rw [← rot_eq hm]
  simp
/-- What goes round goes round wherever it begins. -/
theorem chain_all {b m t : Nat} {A : List PArc} (h : RingAt b m A) (hm : 0 < m) (_ht : t < m) : chainB A (rArc A ((rotI b m t m).getD ((rotI b m t m).length - 1) 0)).dt (rotI b m t m) = true := by
  rw [rotI_len, getD_at (rotI_at (b := b) (m := m) (t := t) (k := m) (q := m - 1) (by omega))]
  rw [(ring_arc h (Nat.mod_lt (t + (m - 1)) hm)).2]
  have := chain_rot h hm m t
  rwa [show ((t % m : Nat) : Int) = (((t + (m - 1)) % m : Nat) + 1 : Int) % (m : Int) by
    rw [Int.natCast_emod, Int.natCast_emod, Int.emod_add_emod, Int.natCast_add, show (t : Int) + ((m - 1 : Nat) : Int) + 1 = (t : Int) + (m : Int) by omega, Int.add_emod_right]] at this
/-- What an arc costs. -/
def cst (l : List PArc) (a : Int) : Int := if 0 ≤ a ∧ a < (l.length : Int) then (rArc l a).co else 0
theorem sumA_eq (l : List PArc) (r : List Int) : sumA l r = (r.map (cst l)).sum := by
  have : ∀ (r : List Int) (w : Int), r.foldl (fun w a => if 0 ≤ a ∧ a < (l.length : Int) then w + (rArc l a).co else w) w = w + (r.map (cst l)).sum := by
    intro r
    induction r with
    | nil => intro w; simp
    | cons a r ih =>
      intro w
      rw [List.foldl_cons, ih, List.map_cons, List.sum_cons]
      unfold cst
      split <;> omega
  unfold sumA
  rw [this]
  omega
theorem sumA_comm (l : List PArc) (x y : List Int) : sumA l (x ++ y) = sumA l (y ++ x) := by
  rw [sumA_eq, sumA_eq, List.map_append, List.map_append, List.sum_append, List.sum_append]
  omega
theorem sumA_great {l : List PArc} {B : Int} (hB : 0 ≤ B) {r : List Int} (h : ∀ a ∈ r, -B ≤ cst l a) : -(B * (r.length : Int)) ≤ sumA l r := by
  rw [sumA_eq]
  induction r with
  | nil => simp
  | cons a r ih =>
    have h1 := ih (fun b hb => h b (List.mem_cons_of_mem _ hb))
    have h2 := h a (List.mem_cons_self ..)
    rw [List.map_cons, List.sum_cons, List.length_cons, Int.natCast_add, Int.mul_add]
    omega
theorem sumA_least {l : List PArc} {B : Int} {r : List Int} (h : ∀ a ∈ r, cst l a ≤ B) (hB : 0 ≤ B) : sumA l r ≤ B * (r.length : Int) := by
  rw [sumA_eq]
  induction r with
  | nil => simp
  | cons a r ih =>
    have h1 := ih (fun b hb => h b (List.mem_cons_of_mem _ hb))
    have h2 := h a (List.mem_cons_self ..)
    rw [List.map_cons, List.sum_cons, List.length_cons, Int.natCast_add, Int.mul_add]
    omega
theorem sumA_dear {l : List PArc} {r : List Int} {x : Int} (h : ∀ a ∈ r, -8 ≤ cst l a) (hx : x ∈ r) (hl : r.length ≤ 7) (hc : cst l x = 1000) : 0 < sumA l r := by
  obtain ⟨p, q, rfl⟩ := List.append_of_mem hx
  have h1 := sumA_great (l := l) (B := 8) (by omega) (r := p) (fun a ha => h a (by simp [ha]))
  have h2 := sumA_great (l := l) (B := 8) (by omega) (r := q) (fun a ha => h a (by simp [ha]))
  rw [sumA_eq] at h1 h2 ⊢
  rw [List.map_append, List.map_cons, List.sum_append, List.sum_cons, hc]
  simp only [List.length_append, List.length_cons] at hl
  omega
theorem rIdx_nodup (b m : Nat) : (rIdx b m).Nodup := by
  unfold rIdx
  refine List.Pairwise.map _ ?_ (List.nodup_range (n := m))
  intro a b' h e
  omega
theorem ringB_rot {b m t : Nat} {A : List PArc} (h : RingAt b m A) (ht : t < m) : ringB A ((rIdx b m).drop t ++ (rIdx b m).take t) = ringB A (rIdx b m) := by
  have hm : 0 < m := by omega
  have h1 := chain_all h hm ht
  have h2 := chain_all h hm hm
  rw [← rot_eq ht] at h1
  rw [← rot_zero b m hm] at h2
  unfold ringB
  rw [h1, h2, sumA_comm, List.take_append_drop]
  have e1 : ∀ p : Int → Bool, ((rIdx b m).drop t ++ (rIdx b m).take t).any p = (rIdx b m).any p := fun p => by
    rw [List.any_append, Bool.or_comm, ← List.any_append, List.take_append_drop]
  have e2 : decide (((rIdx b m).drop t ++ (rIdx b m).take t).Nodup) = decide ((rIdx b m).Nodup) := by
    have := (List.perm_append_comm (l₁ := (rIdx b m).drop t) (l₂ := (rIdx b m).take t)).nodup_iff
    rw [List.take_append_drop] at this
    simp only [this]
  rw [e1, e1, e2]
theorem turns_rot {s : List Int} {b m t : Nat} {A : List PArc} (h : RingAt b m A) (ht : t < m) : turnsN s A ((rIdx b m).drop t ++ (rIdx b m).take t) = turnsN s A (rIdx b m) := by
  unfold turnsN
  rw [ringB_rot h ht, show ((rIdx b m).drop t ++ (rIdx b m).take t).length = (rIdx b m).length by simp; omega]
theorem turns_bent {s : List Int} {A : List PArc} {r : List Int} (h0 : rightN s A = 0) (h1 : 0 < r.length) (h2 : r.length ≤ A.length) (h : ringB A r = false) : turnsN s A r = 35 := by
  unfold turnsN
  rw [if_neg (by omega), if_neg (by omega), h]
  rfl
/-- A list that begins behind its begin. -/
theorem turns_less {s : List Int} {b m : Nat} {A : List PArc} (h : RingAt b m A) (hm : 0 < m) (h0 : rightN s A = 0) : turnsN s A ((rIdx b m).drop 1) ≠ 0 := by
  by_cases h1 : m = 1
  · subst h1
    unfold turnsN
    rw [if_neg (by omega), if_pos (.inl (by simp [rIdx_len]))]
    omega
  · have hl := rIdx_len b m
    have hA := h.1
    rw [turns_bent h0 (by simp; omega) (by simp; omega) ?_]
    · omega
    have e1 : ((rIdx b m).drop 1).getD (((rIdx b m).drop 1).length - 1) 0 = ((b + (m - 1) : Nat) : Int) := by
      refine getD_at ?_
      rw [List.length_drop, hl, List.getElem?_drop, rIdx_at (by omega)]
      congr 3
      omega
    have e2 : (rIdx b m).drop 1 = ((b + 1 : Nat) : Int) :: (rIdx b m).drop 2 := by
      obtain ⟨f1, f2⟩ := List.getElem?_eq_some_iff.1 (rIdx_at (b := b) (m := m) (j := 1) (by omega))
      rw [List.drop_eq_getElem_cons f1, f2]
    unfold ringB
    rw [e1, e2, (ring_arc h (j := m - 1) (by omega)).2, show ((m - 1 : Nat) : Int) + 1 = (m : Int) by omega, Int.emod_self, chainB, (ring_arc h (j := 1) (by omega)).1]
    simp
theorem inf_any {A : List PArc} {r : List Int} {x : Int} (hx : x ∈ r) (h : (rArc A x).ca ≠ 4611686018427387904) : ringB A r = false := by
  have : r.any (infB A) = true := List.any_eq_true.2 ⟨x, hx, by unfold infB; exact dT h⟩
  unfold ringB
  rw [this]
  simp
theorem dear_any {A : List PArc} {r : List Int} (h : 0 < sumA A r) (h' : sumA A r < 170141183460469231731687303715884105728) : ringB A r = false := by
  unfold ringB
  rw [cn_in (n := sumA A r) (by omega) h', cn_in (n := 0) (by omega) (by omega), show cmpI (sumA A r) 0 = 1 by unfold cmpI; rw [if_neg (by omega), if_pos h]]
  simp
/-- An arc of a ring's instance. -/
theorem ring_at (c d : List Nat) (L : List PArc) (m : Nat) : RingAt L.length m (L ++ rArcs c d m m) := by
  refine ⟨by simp [rArcs_len], fun j hj => ⟨⟨j, ((j : Int) + 1) % (m : Int), 0, capR c j, costR d j⟩, ?_, rfl, rfl⟩⟩
  rw [List.getElem?_append_right (by omega), show L.length + j - L.length = j by omega]
  unfold rArcs
  rw [List.getElem?_map, List.getElem?_range hj]
  rfl
theorem mR_le (c : List Nat) {N : Nat} (hN : 0 < N) : mR c N ≤ N := by
  unfold mR
  split
  · have := Nat.mod_lt (c.getD 0 0) hN
    omega
  · omega
theorem wrong_ring {c d : List Nat} {m N : Nat} {a : PArc} (h : a ∈ rArcs c d m m) (hm : 0 < m) (hN : m ≤ N) : wrongN a N = 0 := by
  have h1 := rArcs_mem h hm (Nat.le_refl _)
  unfold wrongN nodeB inB
  rw [if_pos (by simp; omega), if_neg (by simp; omega), if_pos (by simp; omega)]
theorem right_of {c d : List Nat} {A : List PArc} (hA : A.length ≤ 256) (h : ∀ a ∈ A, wrongN a (nOf d) = 0) : rightN (instS c d) A = 0 := by
  have hn := nOf_range d
  have hb := instS_bnd c d
  have hl := instS_len c d
  refine rightN_zero (by omega) hA (fun a h' => by rw [hl]; exact h a h') (fun n h => ?_) (instS_sum c d)
  have := hb n h
  simp [inB]
  omega
theorem wrong_round {c d : List Nat} {a : PArc} (h : a ∈ arcsN c (nOf d) ++ rArcs c d (mR c (nOf d)) (mR c (nOf d))) : wrongN a (nOf d) = 0 := by
  have hN := nOf_range d
  rcases List.mem_append.1 h with h | h
  · exact wrong_inst h
  · exact wrong_ring h (mR_range c hN).1 (mR_le c hN.1)
theorem cst_bnd {l : List PArc} {lo hi : Int} (h : ∀ a ∈ l, lo ≤ a.co ∧ a.co ≤ hi) (h0 : lo ≤ 0 ∧ 0 ≤ hi) (a : Int) : lo ≤ cst l a ∧ cst l a ≤ hi := by
  unfold cst
  split
  · obtain ⟨q, hq⟩ := at_ (l := l) (k := a.toNat) (by omega)
    rw [show rArc l a = q from getD_at hq]
    exact h q (List.mem_of_getElem? hq)
  · exact h0
theorem mem_set_or {α : Type} {l : List α} {k : Nat} {x y : α} (h : y ∈ l.set k x) : y ∈ l ∨ y = x := List.mem_or_eq_of_mem_set h
end Go.Proofs.Ytiboffhdabeiiaa
