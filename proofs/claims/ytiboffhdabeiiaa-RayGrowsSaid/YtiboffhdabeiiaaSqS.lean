/-
  Instances made of bytes: how great supplies are. Plain.
-/
import Derived.Test.YtiboffhdabeiiaaSqH
namespace Go.Proofs.Ytiboffhdabeiiaa
open Go Go.RowKit
theorem supTo_bnd (c d : List Nat) (k : Nat) (hk : k ≤ (arcsN c (nOf d)).length) : bndS (supTo d (arcsN c (nOf d)) (nOf d) k) (10 * k) := by
  have hn := nOf_range d
  induction k with
  | zero =>
    intro v hv
    have := List.eq_of_mem_replicate (show v ∈ List.replicate (nOf d) (0 : Int) from hv)
    omega
  | succ k ih =>
    obtain ⟨a, ha⟩ := at_ (l := arcsN c (nOf d)) (k := k) (by omega)
    have hA := arcsN_mem (c := c) (n := nOf d) (a := a) (by omega) (List.mem_of_getElem? ha)
    have hx : 0 ≤ xOf d a k ∧ xOf d a k ≤ 5 := by unfold xOf; split <;> omega
    rw [supTo_step ha]
    obtain ⟨u, v, _, _, _, _, _, hb⟩ := moveS_at (s := supTo d (arcsN c (nOf d)) (nOf d) k) (i := a.fr.toNat) (j := a.dt.toNat) (x := xOf d a k) (b := 10 * k) (by rw [supTo_len]; omega) (by rw [supTo_len]; omega) (ih (by omega)) hx (by omega)
    exact bndS_mono hb (by omega)
theorem instS_bnd (c d : List Nat) : bndS (instS c d) 190 := by
  have hn := nOf_range d
  have hL := arcsN_len c (nOf d)
  have hb := supTo_bnd c d (arcsN c (nOf d)).length (Nat.le_refl _)
  rw [instS_def]
  split
  · obtain ⟨u, v, _, _, _, _, _, hb2⟩ := moveS_at (s := supTo d (arcsN c (nOf d)) (nOf d) (arcsN c (nOf d)).length) (i := 0) (j := nOf d - 1) (x := ((d.getD 1 0 : Nat) : Int) % 3) (b := 180) (by rw [supTo_len]; omega) (by rw [supTo_len]; omega) (bndS_mono hb (by omega)) (by omega) (by omega)
    exact bndS_mono hb2 (by omega)
  · exact bndS_mono hb (by omega)
end Go.Proofs.Ytiboffhdabeiiaa
