/-
  FlowMade; by symbolic steps.
-/
import Derived.Test.YtiboffhdabeiiaaFlH
namespace Go.Proofs.Ytiboffhdabeiiaa
open Go Go.RowKit
theorem map_set_drop {α : Type} {f : α → α} {l : List α} {k : Nat} {a : α} (h : l[k]? = some a) : ((l.take k).map f ++ l.drop k).set k (f a) = (l.take (k + 1)).map f ++ l.drop (k + 1) := by
  have hk := (List.getElem?_eq_some_iff.1 h).1
  rw [take_snoc h, List.map_append, List.set_append_right _ _ (by simp; omega), show k - ((l.take k).map f).length = 0 by simp; omega, List.drop_eq_getElem_cons hk, List.set_cons_zero, List.append_assoc]
  rfl
theorem at_app {α : Type} {p q : List α} {k : Nat} (hp : p.length = k) (hq : 0 < q.length) : (p ++ q)[k]? = some q[0] := by
  rw [List.getElem?_append_right (by omega), hp, Nat.sub_self, List.getElem?_eq_getElem hq]
theorem flowN_5 {l : List PArc} {d : List Nat} (hA : ∀ a ∈ l, (0 ≤ a.lo ∧ a.lo ≤ 2) ∧ a.lo ≤ a.ca) (k : Nat) : 0 ≤ (flowN d l).getD k 0 ∧ (flowN d l).getD k 0 ≤ 5 := by
  rw [List.getD_eq_getElem?_getD]
  rcases Nat.lt_or_ge k l.length with h | h
  · obtain ⟨a, ha⟩ := at_ h
    have := hA a (List.mem_of_getElem? ha)
    rw [flowN_at ha]
    have h2 := flowE_bnd d k this.1 this.2
    exact ⟨h2.1, h2.2.1⟩
  · rw [List.getElem?_eq_none (by rw [flowN_len]; exact h)]
    decide
theorem made_fits {n0 : Nat} {l : List PArc} {d : List Nat} {r : Int} (hA : ∀ a ∈ l, (0 ≤ a.fr ∧ a.fr < n0) ∧ (0 ≤ a.dt ∧ a.dt < n0) ∧ (0 ≤ a.lo ∧ a.lo ≤ 2) ∧ a.lo ≤ a.ca ∧ (a.ca = 4611686018427387904 ∨ a.ca ≤ 4398046511104)) (hl : l.length ≤ 18) (hn : n0 ≤ 7) (hr : -999 ≤ r ∧ r ≤ 999) :
    fitsN (netN n0 l (flowN d l) l.length) (l.map (rate r)) (flowN d l) = 0 ∧ ∀ v, v < n0 → -90 ≤ netV v l (flowN d l) l.length ∧ netV v l (flowN d l) l.length ≤ 90 := by
  have hw : ∀ a ∈ l, wholeB n0 a = true := fun a h => by have := hA a h; simp only [wholeB, decide_eq_true_eq]; omega
  have h5 := flowN_5 (l := l) (d := d) fun a h => by have := hA a h; omega
  have hb : ∀ v, -90 ≤ netV v l (flowN d l) l.length ∧ netV v l (flowN d l) l.length ≤ 90 := fun v => by have := netV_bnd v l _ h5 l.length; omega
  have hmem : ∀ n ∈ netN n0 l (flowN d l) l.length, -90 ≤ n ∧ n ≤ 90 := fun n h => by
    obtain ⟨v, hv⟩ := List.mem_iff_getElem?.1 h
    have hvl := (List.getElem?_eq_some_iff.1 hv).1
    rw [netN_len] at hvl
    rw [netN_list hw hvl] at hv
    injection hv with hv
    subst hv
    exact hb v
  refine ⟨?_, fun v _ => hb v⟩
  have hR : rightN (netN n0 l (flowN d l) l.length) (l.map (rate r)) = 0 := by
    refine rightN_zero (by rw [netN_len]; omega) (by simp; omega) (fun a h => ?_) (fun n h => ?_) (sum_netN hw _)
    · obtain ⟨b, hb2, rfl⟩ := List.mem_map.1 h
      have := hA b hb2
      rw [netN_len]
      unfold wrongN rate nodeB inB
      dsimp only
      rw [if_pos (by simp; omega), if_neg (by simp; omega), if_pos (by simp; omega)]
    · have := hmem n h
      unfold inB
      simp
      omega
  have hw2 : ∀ a ∈ l.map (rate r), wholeB (netN n0 l (flowN d l) l.length).length a = true := fun a h => by
    obtain ⟨b, hb2, rfl⟩ := List.mem_map.1 h
    rw [netN_len]
    exact hw b hb2
  have hF : flowB (l.map (rate r)) (flowN d l) = true := by
    refine zall.2 fun k a b h1 h2 => ?_
    rw [List.getElem?_map] at h1
    cases ha : l[k]? with
    | none => rw [ha] at h1; cases h1
    | some c =>
      rw [ha] at h1
      injection h1 with h1
      subst h1
      rw [flowN_at ha] at h2
      injection h2 with h2
      subst h2
      have := hA c (List.mem_of_getElem? ha)
      exact (flowE_bnd d k this.2.2.1 this.2.2.2.1).2.2
  have hB : netB (netN n0 l (flowN d l) l.length) (l.map (rate r)) (flowN d l) = true := by
    refine (netB_iff hw2).2 fun v hv => ?_
    rw [netN_len] at hv
    rw [List.length_map, netV_rate, List.getD_eq_getElem?_getD, netN_list hw hv]
    rfl
  unfold fitsN
  rw [if_neg (by simpa using hR), if_neg (by simp [flowN_len]), if_neg (by simp [hF]), if_neg (by simp [hB])]
end Go.Proofs.Ytiboffhdabeiiaa
