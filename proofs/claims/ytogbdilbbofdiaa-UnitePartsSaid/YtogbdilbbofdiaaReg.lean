/-
  Steps through a region that draws its order, by hand: an operation taken first, one passed over whose guard is false, a call that comes up alone. Plain lemmas over the kit's own, no program in sight.
-/
import Derived.Test.YtogbdilbbofdiaaLib
import Derived.Deep.RegionHeld3
namespace Go.Proofs.Ytogbdilbbofdiaa
open Go Go.RowKit

section
variable {P : Program} {l : List Oper} {Q : Exit → Act → World → Prop} {md : Region.Mode} {S : World → Prop} {i fuel : Nat} {oi : Oper} {v : Value} {listed : Array Bool} {a : Act} {w : World}
theorem head_drop_at (hi : (l.drop i).head? = some oi) : l.toArray[i]? = some oi := by
  rw [List.head?_drop] at hi
  simpa using hi
theorem take_on (hi : (l.drop i).head? = some oi) (hs : Region.noSelect l.toArray = true) (hf : Region.free md l.toArray listed i = true) (hr : (Region.ready md l.toArray listed).contains i = true)
    (hw : Region.wanted oi (yielded l.toArray a.tmps) = true) (hS : S w) (hy : ∀ w, S w → (execOp a.eval oi).run P w = .ok (.value v) w) (hQ : ∀ c a w, Q (.panic c) (a.put oi.dst v) w → Q (.panic c) a w)
    (h : wpAnyH P md l.toArray Q S fuel (listed.setIfInBounds i true) (a.put oi.dst v) w) : wpAnyH P md l.toArray Q S (fuel + 1) listed a w :=
  wpAnyH_take (head_drop_at hi) hs hf hr hQ (.inl ⟨hw, hy⟩) hS h
theorem take_off (hi : (l.drop i).head? = some oi) (hs : Region.noSelect l.toArray = true) (hf : Region.free md l.toArray listed i = true) (hr : (Region.ready md l.toArray listed).contains i = true)
    (hw : Region.wanted oi (yielded l.toArray a.tmps) = false) (hS : S w) (hQ : ∀ c a w, Q (.panic c) (a.put oi.dst undef) w → Q (.panic c) a w)
    (h : wpAnyH P md l.toArray Q S fuel (listed.setIfInBounds i true) (a.put oi.dst undef) w) : wpAnyH P md l.toArray Q S (fuel + 1) listed a w :=
  wpAnyH_take (head_drop_at hi) hs hf hr hQ (.inr ⟨hw, rfl⟩) hS h
theorem take_call (hi : (l.drop i).head? = some oi) (hr : Region.ready md l.toArray listed = [i]) (hw : Region.wanted oi (yielded l.toArray a.tmps) = true)
    (h : ∀ K' : Act → World → Prop, Shut (∀ a w, S w → (S w → wpAnyH P md l.toArray Q S fuel (listed.setIfInBounds i true) a w) → K' a w) → Oper.wp P oi a w K' Q) : wpAnyH P md l.toArray Q S (fuel + 1) listed a w :=
  wpAnyH_ready hr (by simp) (AllReadyH.cons (head_drop_at hi) (fun K hK => by rw [if_pos hw]; exact h K hK) AllReadyH.nil)
end
end Go.Proofs.Ytogbdilbbofdiaa
