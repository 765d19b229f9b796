/-
  flow: plain laws: supplies that are what a flow sends.
-/
import Derived.Test.YtiboffhdabeiiaaFlF
import Derived.Test.YtiboffhdabeiiaaSqS
namespace Go.Proofs.Ytiboffhdabeiiaa
open Go Go.RowKit
theorem sum_set : ∀ (L : List Int) (i : Nat) (v : Int), i < L.length → (L.set i v).sum = L.sum + v - L.getD i 0
  | a :: L, 0, v, _ => by simp only [List.set_cons_zero, List.sum_cons, List.getD_cons_zero]; omega
  | a :: L, i + 1, v, h => by
    simp only [List.set_cons_succ, List.sum_cons, List.getD_cons_succ]
    rw [sum_set L i v (by simpa using h)]
    omega
theorem sum_addAt (L : List Int) (i : Nat) (w : Int) (h : i < L.length) : (addAt L i w).sum = L.sum + w := by
  unfold addAt
  rw [sum_set _ _ _ h]
  omega
theorem sum_zeros (n : Nat) : (List.replicate n (0 : Int)).sum = 0 := by
  induction n with
  | zero => rfl
  | succ n ih => rw [List.replicate_succ, List.sum_cons, ih]; rfl
theorem sum_netN {N : Nat} {l : List PArc} {x : List Int} (hw : ∀ a ∈ l, wholeB N a = true) (k : Nat) : (netN N l x k).sum = 0 := by
  induction k with
  | zero => exact sum_zeros N
  | succ k ih =>
    rcases Nat.lt_or_ge k l.length with h | h
    · obtain ⟨a, ha⟩ := at_ h
      have hwa := hw a (List.mem_of_getElem? ha)
      have hwb := hwa
      simp only [wholeB, decide_eq_true_eq] at hwb
      rw [netN_succ ha, netStep, if_pos hwa, sum_addAt _ _ _ (by rw [addAt_len, netN_len]; omega), sum_addAt _ _ _ (by rw [netN_len]; omega), ih]
      omega
    · have hn : l[k]? = none := List.getElem?_eq_none h
      rw [netN, hn]
      exact ih
theorem supBad_zero : ∀ (l : List Int) (t : Int), (∀ n ∈ l, inB n = true) → t + l.sum = 0 → supBad l t = 0
  | [], t, _, h => by
    simp only [List.sum_nil] at h
    rw [supBad, if_pos (by omega)]
  | n :: l, t, h1, h2 => by
    simp only [List.sum_cons] at h2
    rw [supBad, if_pos (h1 n (List.mem_cons_self ..))]
    exact supBad_zero l (t + n) (fun m hm => h1 m (List.mem_cons_of_mem _ hm)) (by omega)
theorem arcsBad_zero (m : Nat) : ∀ (l : List PArc), (∀ a ∈ l, wrongN a m = 0) → arcsBad m l = 0
  | [], _ => rfl
  | a :: l, h => by
    rw [arcsBad, if_pos (h a (List.mem_cons_self ..))]
    exact arcsBad_zero m l fun b hb => h b (List.mem_cons_of_mem _ hb)
theorem rightN_zero {s : List Int} {l : List PArc} (h1 : s.length ≤ 64) (h2 : l.length ≤ 256) (h3 : ∀ a ∈ l, wrongN a s.length = 0) (h4 : ∀ n ∈ s, inB n = true) (h5 : s.sum = 0) : rightN s l = 0 := by
  unfold rightN
  rw [if_neg (by omega), if_pos (arcsBad_zero _ _ h3)]
  exact supBad_zero _ _ h4 (by omega)
theorem flowE_bnd (d : List Nat) (k : Nat) {a : PArc} (h1 : 0 ≤ a.lo ∧ a.lo ≤ 2) (h2 : a.lo ≤ a.ca) : 0 ≤ flowE d k a ∧ flowE d k a ≤ 5 ∧ fitB a (flowE d k a) = true := by
  unfold fitB
  rw [decide_eq_true_eq]
  unfold flowE
  split <;> omega
theorem netV_bnd (v : Nat) (l : List PArc) (x : List Int) (hx : ∀ k, 0 ≤ x.getD k 0 ∧ x.getD k 0 ≤ 5) (k : Nat) : -(5 * (k : Int)) ≤ netV v l x k ∧ netV v l x k ≤ 5 * k := by
  induction k with
  | zero => simp [netV]
  | succ k ih =>
    have := hx k
    cases h : l[k]? with
    | none =>
      rw [netV, h]
      dsimp only
      omega
    | some a =>
      rw [netV_succ h]
      split <;> split <;> omega
/-- An arc at another cost. -/
def rate (r : Int) (a : PArc) : PArc := ⟨a.fr, a.dt, a.lo, a.ca, r⟩
theorem netV_rate (v : Nat) (l : List PArc) (x : List Int) (r : Int) (k : Nat) : netV v (l.map (rate r)) x k = netV v l x k := by
  induction k with
  | zero => rfl
  | succ k ih =>
    cases h : l[k]? with
    | none => rw [netV, netV, List.getElem?_map, h]; exact ih
    | some a =>
      rw [netV_succ h, netV_succ (a := rate r a) (by rw [List.getElem?_map, h]; rfl), ih]
      rfl
theorem netN_list {N : Nat} {l : List PArc} {x : List Int} (hw : ∀ a ∈ l, wholeB N a = true) {v : Nat} (hv : v < N) : (netN N l x l.length)[v]? = some (netV v l x l.length) := by
  obtain ⟨u, hu⟩ := at_ (l := netN N l x l.length) (k := v) (by rw [netN_len]; exact hv)
  have := netN_getD (x := x) hv hw l.length
  rw [List.getD_eq_getElem?_getD, hu] at this
  rw [hu, ← this]
  rfl
theorem take_set_drop {N s : List Int} {k : Nat} {u : Int} (h : N[k]? = some u) (hk : k < s.length) : (N.take k ++ s.drop k).set k u = N.take (k + 1) ++ s.drop (k + 1) := by
  have hl := (List.getElem?_eq_some_iff.1 h).1
  rw [take_snoc h, List.set_append_right _ _ (by simp; omega), show k - (N.take k).length = 0 by simp; omega, List.drop_eq_getElem_cons hk, List.set_cons_zero, List.append_assoc]
  rfl
end Go.Proofs.Ytiboffhdabeiiaa
