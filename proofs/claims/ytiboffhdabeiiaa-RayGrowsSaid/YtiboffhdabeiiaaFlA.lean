/-
  flow: at, sums, put, Net; by symbolic steps.
-/
import Derived.Test.YtiboffhdabeiiaaAdB
namespace Go.Proofs.Ytiboffhdabeiiaa
open Go Go.RowKit
/-- Wide numbers as a row's elements. -/
@[reducible] def wl (L : List Int) : List PW := L.map toW
theorem wl_len (L : List Int) : (wl L).length = L.length := List.length_map ..
theorem wl_at {L : List Int} {k : Nat} {u : Int} (h : L[k]? = some u) : (wl L)[k]? = some (toW u) := by rw [wl, List.getElem?_map, h]; rfl
theorem wl_set (L : List Int) (k : Nat) (v : Int) : (wl L).set k (toW v) = wl (L.set k v) := by rw [wl, wl, List.map_set]
def addAt (L : List Int) (k : Nat) (w : Int) : List Int := L.set k (L.getD k 0 + w)
theorem addAt_len (L : List Int) (k : Nat) (w : Int) : (addAt L k w).length = L.length := List.length_set ..
def netStep (N : Nat) (L : List Int) (a : PArc) (n : Int) : List Int := if wholeB N a = true then addAt (addAt L a.fr.toNat n) a.dt.toNat (0 - n) else L
theorem netStep_len (N : Nat) (L : List Int) (a : PArc) (n : Int) : (netStep N L a n).length = L.length := by
  unfold netStep
  split
  · rw [addAt_len, addAt_len]
  · rfl
/-- What each node sends, by a list's first arcs. -/
def netN (N : Nat) (l : List PArc) (x : List Int) : Nat → List Int
  | 0 => List.replicate N 0
  | k + 1 => match l[k]? with
    | some a => netStep N (netN N l x k) a (x.getD k 0)
    | none => netN N l x k
theorem netN_len (N : Nat) (l : List PArc) (x : List Int) (k : Nat) : (netN N l x k).length = N := by
  induction k with
  | zero => simp [netN]
  | succ k ih =>
    unfold netN
    split
    · rw [netStep_len, ih]
    · exact ih
theorem netN_succ {N : Nat} {l : List PArc} {x : List Int} {k : Nat} {a : PArc} (h : l[k]? = some a) : netN N l x (k + 1) = netStep N (netN N l x k) a (x.getD k 0) := by rw [netN, h]
theorem fat_in (x : List Int) (k : Nat) (n : Int) (h : x[k]? = some n) : Spec Try.prog 88 [.a 1000 x.length, iv k] [(1000, .ro eInt x)] (iv n) [] := by
  have hlt := (List.getElem?_eq_some_iff.1 h).1
  refine Spec.mk [] Try.call88 Try.func88 Try.ntmps88 Try.results88 rfl (by kernel_rfl) (by kernel_rfl) ?_
  (repeat (first | apply TL.seq | ((first | apply TL.pl | apply TL.dr _ (by kernel_rfl)); (repeat (first | (apply RX.kN; refine RX.x OpA rfl ?_) | (apply RX.kG; first | refine RX.y rfl rfl rfl GdA OpA ?_ | refine RX.n rfl rfl rfl GdA rfl rfl ?_ | refine RX.nU rfl rfl rfl rfl rfl ?_ | refine RX.nS rfl rfl rfl GdA rfl ?_))); (try apply RX.nil _ (by kernel_rfl))) | (apply TL.kC; first | refine TL.condT rfl DecT ?_ | refine TL.condF rfl DecF ?_ | refine TL.condT rfl BoT ?_ | refine TL.condF rfl BoF ?_) | apply TL.block | apply TL.endB | apply TL.exit rfl | apply TL.exitOut rfl | apply TL.ret | apply TL.skip | apply TL.nil | apply loopK.exit rfl | apply loopK.ret | apply loopK.exitOut rfl))
  exact retK.v rfl
theorem fat_out (x : List Int) (i : Int) (h : i < 0 ∨ x.length ≤ i) : Spec Try.prog 88 [.a 1000 x.length, iv i] [(1000, .ro eInt x)] (iv 0) [] := by
  refine Spec.mk [] Try.call88 Try.func88 Try.ntmps88 Try.results88 rfl (by kernel_rfl) (by kernel_rfl) ?_
  by_cases h1 : i < 0
  · (repeat (first | apply TL.seq | ((first | apply TL.pl | apply TL.dr _ (by kernel_rfl)); (repeat (first | (apply RX.kN; refine RX.x OpA rfl ?_) | (apply RX.kG; first | refine RX.y rfl rfl rfl GdA OpA ?_ | refine RX.n rfl rfl rfl GdA rfl rfl ?_ | refine RX.nU rfl rfl rfl rfl rfl ?_ | refine RX.nS rfl rfl rfl GdA rfl ?_))); (try apply RX.nil _ (by kernel_rfl))) | (apply TL.kC; first | refine TL.condT rfl DecT ?_ | refine TL.condF rfl DecF ?_ | refine TL.condT rfl BoT ?_ | refine TL.condF rfl BoF ?_) | apply TL.block | apply TL.endB | apply TL.exit rfl | apply TL.exitOut rfl | apply TL.ret | apply TL.skip | apply TL.nil | apply loopK.exit rfl | apply loopK.ret | apply loopK.exitOut rfl))
    exact retK.v rfl
  · (repeat (first | apply TL.seq | ((first | apply TL.pl | apply TL.dr _ (by kernel_rfl)); (repeat (first | (apply RX.kN; refine RX.x OpA rfl ?_) | (apply RX.kG; first | refine RX.y rfl rfl rfl GdA OpA ?_ | refine RX.n rfl rfl rfl GdA rfl rfl ?_ | refine RX.nU rfl rfl rfl rfl rfl ?_ | refine RX.nS rfl rfl rfl GdA rfl ?_))); (try apply RX.nil _ (by kernel_rfl))) | (apply TL.kC; first | refine TL.condT rfl DecT ?_ | refine TL.condF rfl DecF ?_ | refine TL.condT rfl BoT ?_ | refine TL.condF rfl BoF ?_) | apply TL.block | apply TL.endB | apply TL.exit rfl | apply TL.exitOut rfl | apply TL.ret | apply TL.skip | apply TL.nil | apply loopK.exit rfl | apply loopK.ret | apply loopK.exitOut rfl))
    exact retK.v rfl
theorem fat_s (x : List Int) (k : Nat) : Spec Try.prog 88 [.a 1000 x.length, iv k] [(1000, .ro eInt x)] (iv (x.getD k 0)) [] := by
  rw [List.getD_eq_getElem?_getD]
  by_cases h : k < x.length
  · obtain ⟨n, hn⟩ := at_ h
    rw [hn]
    exact fat_in x k n hn
  · rw [List.getElem?_eq_none (by omega)]
    exact fat_out x k (.inr (by omega))
theorem fadd_s (N : Nat) (L : List Int) (n : Int) (w : Int) (hN : L.length = N) (h0 : 0 ≤ n) (h1 : n < N) :
    Spec Try.prog 135 [.a 1000 N, iv n, wd w] [(1000, .own 49 eWide (wl L))] (.tup []) [(1000, .own 49 eWide (wl (addAt L n.toNat w)))] := by
  obtain ⟨u, hu⟩ := at_ (l := L) (k := n.toNat) (by omega)
  have hu2 := wl_at hu
  have hl := wl_len L
  have e : addAt L n.toNat w = L.set n.toNat (u + w) := by unfold addAt; rw [List.getD_eq_getElem?_getD, hu]; rfl
  rw [e, ← wl_set]
  refine Spec.mk [1000] Try.call135 Try.func135 Try.ntmps135 Try.results135 rfl (by kernel_rfl) (by kernel_rfl) ?_
  (repeat (first | apply TL.seq | ((first | apply TL.pl | apply TL.dr _ (by kernel_rfl)); (repeat (first | (apply RX.kN; refine RX.x OpA rfl ?_) | (apply RX.kG; first | refine RX.y rfl rfl rfl GdA OpA ?_ | refine RX.n rfl rfl rfl GdA rfl rfl ?_ | refine RX.nU rfl rfl rfl rfl rfl ?_ | refine RX.nS rfl rfl rfl GdA rfl ?_))); (try apply RX.nil _ (by kernel_rfl))) | (apply TL.kC; first | refine TL.condT rfl DecT ?_ | refine TL.condF rfl DecF ?_ | refine TL.condT rfl BoT ?_ | refine TL.condF rfl BoF ?_) | apply TL.block | apply TL.endB | apply TL.exit rfl | apply TL.exitOut rfl | apply TL.ret | apply TL.skip | apply TL.nil | apply loopK.exit rfl | apply loopK.ret | apply loopK.exitOut rfl))
  (first | refine RX.x (OpR.callA (plus_s u w) (sg []) LeA) rfl ?_ | refine RX.y rfl rfl rfl GdA (OpR.callA (plus_s u w) (sg []) LeA) ?_); ((repeat (first | (apply RX.kN; refine RX.x OpA rfl ?_) | (apply RX.kG; first | refine RX.y rfl rfl rfl GdA OpA ?_ | refine RX.n rfl rfl rfl GdA rfl rfl ?_ | refine RX.nU rfl rfl rfl rfl rfl ?_ | refine RX.nS rfl rfl rfl GdA rfl ?_))); (try apply RX.nil _ (by kernel_rfl)); repeat (first | apply TL.seq | ((first | apply TL.pl | apply TL.dr _ (by kernel_rfl)); (repeat (first | (apply RX.kN; refine RX.x OpA rfl ?_) | (apply RX.kG; first | refine RX.y rfl rfl rfl GdA OpA ?_ | refine RX.n rfl rfl rfl GdA rfl rfl ?_ | refine RX.nU rfl rfl rfl rfl rfl ?_ | refine RX.nS rfl rfl rfl GdA rfl ?_))); (try apply RX.nil _ (by kernel_rfl))) | (apply TL.kC; first | refine TL.condT rfl DecT ?_ | refine TL.condF rfl DecF ?_ | refine TL.condT rfl BoT ?_ | refine TL.condF rfl BoF ?_) | apply TL.block | apply TL.endB | apply TL.exit rfl | apply TL.exitOut rfl | apply TL.ret | apply TL.skip | apply TL.nil | apply loopK.exit rfl | apply loopK.ret | apply loopK.exitOut rfl))
  exact retK.none (fun i => i) LeA
end Go.Proofs.Ytiboffhdabeiiaa
