/-
  An argument that is a slice of slices of integers, read. Plain lemmas, no program in sight.
-/
import Derived.Test.YtogbdilbbofdiaaMem
import Derived.Deep.Matrix
namespace Go.Proofs.Ytogbdilbbofdiaa
open Go.RowKit

theorem rows_read {w : World} {k : IntKind} {base : Nat} {a : Addr} {len cap : Nat} {A : Nat → Option Addr} {L C : Nat → Nat} {Z : Nat → List Int} (hl : len ≤ cap) (hm : cap ≤ maxLen)
    (h : ∀ r, r < cap → w.cell? (a.add r) = some (.slice (A r) (L r) (C r)) ∧ L r ≤ C r ∧ C r ≤ maxLen ∧ (Z r).length = C r ∧ (∀ n ∈ Z r, (Lit.int k n).wf = true) ∧ (A r = none → C r = 0) ∧
        ∀ a', A r = some a' → base ≤ a'.block ∧ ∀ c, c < C r → w.cell? (a'.add c) = some (.int k ((Z r).getD c 0))) :
    ∃ rows : List (List Int), LL w (fun _ => True) (.slice (some a) len cap) (rows.map fun r => r.map fun n => .int k n) ∧ rows.length = len ∧ (∀ r ∈ rows, r.length ≤ maxLen ∧ ∀ n ∈ r, (Lit.int k n).wf = true) := by
  have row : ∀ r, r < cap → IsRow k w (A r) (L r) (C r) (Z r) := by
    intro r hr
    obtain ⟨_, h2, h3, h4, h5, h6, h7⟩ := h r hr
    cases e : A r with
    | none =>
      have h8 := h6 e
      refine .inl ⟨rfl, by omega, h8, List.eq_nil_of_length_eq_zero (by omega)⟩
    | some x => exact .inr ⟨x, rfl, h2, h3, h4, fun i hi => (h7 x e).2 i (by omega), h5⟩
  refine ⟨(List.range len).map fun r => (Z r).take (L r), ?_, by simp, ?_⟩
  · refine ⟨some a, cap, (List.range len).map fun r => .slice (A r) (L r) (C r), by simp, ⟨by simp, fun hn => ?_⟩, ?_⟩
    · have h0 : 0 < len := by simpa using hn
      have h1 := (h 0 (by omega)).1
      rw [add_zero] at h1
      have hx := spot_of_cell h1
      generalize a.block = B at hx
      generalize a.off = O at hx
      subst hx
      refine ⟨B, O, rfl, trivial, fun j u hu => ?_⟩
      have hj : j < len := by have := (List.getElem?_eq_some_iff.1 hu).1; simpa using this
      have h2 := (h j (by omega)).1
      rw [add_lit] at h2
      rw [h2]
      simpa [hj] using hu
    · intro i u r hu hr
      have hi : i < len := by have := (List.getElem?_eq_some_iff.1 hu).1; simpa using this
      simp [hi] at hu hr
      subst hu
      subst hr
      have h1 := row i (by omega)
      have h2 := h1.read.1
      have h3 : L i ≤ C i := (h i (by omega)).2.1
      have h4 : (Z i).length = C i := (h i (by omega)).2.2.2.1
      have hlen : ((Z i).take (L i)).length = L i := by simp; omega
      refine ⟨A i, C i, by simp; omega, ?_⟩
      have h6 : (List.take (L i) (List.map (fun n => Value.int k n) (Z i))).length = L i := by simp; omega
      rw [h6]
      rw [List.map_take] at h2
      exact h2
  · intro r hr
    simp only [List.mem_map, List.mem_range] at hr
    obtain ⟨i, hi, rfl⟩ := hr
    have h1 := row i (by omega)
    have h3 : L i ≤ C i := (h i (by omega)).2.1
    have h4 : (Z i).length = C i := (h i (by omega)).2.2.2.1
    have h5 : C i ≤ maxLen := (h i (by omega)).2.2.1
    exact ⟨by simp; omega, h1.read.2.1⟩
end Go.Proofs.Ytogbdilbbofdiaa
