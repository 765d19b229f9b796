/-
  Plain laws: a side that proves, and flows that fit.
-/
import Derived.Test.YtiboffhdabeiiaaCtH
namespace Go.Proofs.Ytiboffhdabeiiaa
open Go Go.RowKit
def ind (side : List Bool) (v : Nat) : Int := if sd side v = true then 1 else 0
theorem need_sumN {side : List Bool} {s : List Int} (k : Nat) (hk : k ≤ s.length) : sumN (fun v => ind side v * s.getD v 0) k = (needL side s k).sum := by
  induction k with
  | zero => rfl
  | succ k ih =>
    obtain ⟨u, hu⟩ := at_ (l := s) (k := k) (by omega)
    have hg : s.getD k 0 = u := by rw [List.getD_eq_getElem?_getD, hu]; rfl
    rw [sumN, ih (by omega), needL_succ hu, hg]
    unfold ind
    split
    · rw [List.sum_append]
      simp
    · simp
theorem netV_big (v : Nat) (l : List PArc) (x : List Int) (hx : ∀ k, -9223372036854775808 ≤ x.getD k 0 ∧ x.getD k 0 ≤ 9223372036854775807) (k : Nat) : -(9223372036854775808 * (k : Int)) ≤ netV v l x k ∧ netV v l x k ≤ 9223372036854775808 * k := by
  induction k with
  | zero => simp [netV]
  | succ k ih =>
    have := hx k
    cases h : l[k]? with
    | none =>
      rw [netV, h]
      dsimp only
      omega
    | some a =>
      rw [netV_succ h]
      split <;> split <;> omega
theorem fits_net {s : List Int} {l : List PArc} {x : List Int} (h : fitsN s l x = 0) (hw : ∀ a ∈ l, wholeB s.length a = true) (hx : ∀ n ∈ x, -9223372036854775808 ≤ n ∧ n ≤ 9223372036854775807) (hl : l.length ≤ 1000) (hs : ∀ n ∈ s, -9223372036854775808 ≤ n ∧ n ≤ 9223372036854775807) :
    ∀ v, v < s.length → netV v l x l.length = s.getD v 0 := by
  intro v hv
  obtain ⟨_, _, _, h4⟩ := fitsN_zero h
  have h5 := (netB_iff hw).1 h4 v hv
  have h6 := netV_big v l x (getD_i64 hx) l.length
  have h7 := getD_i64 hs v
  have h8 : ((l.length : Nat) : Int) ≤ 1000 := by omega
  generalize ((l.length : Nat) : Int) = L at *
  rw [cn_in (by omega) (by omega), cn_in (by omega) (by omega)] at h5
  exact h5
theorem safe_need {s : List Int} {l : List PArc} {x : List Int} (side : List Bool) (hw : ∀ a ∈ l, wholeB s.length a = true) (hn : ∀ v, v < s.length → netV v l x l.length = s.getD v 0) : arcW (ind side) l x l.length = needV side s := by
  unfold needV
  rw [sumL_eq, ← need_sumN (side := side) s.length (Nat.le_refl _), ← net_weigh (ind side) hw l.length]
  exact sumN_congr fun v hv => by rw [hn v hv]
theorem fit_one {s : List Int} {l : List PArc} {x : List Int} (h : fitsN s l x = 0) {k : Nat} {a : PArc} (ha : l[k]? = some a) : a.lo ≤ x.getD k 0 ∧ (a.ca = 4611686018427387904 ∨ x.getD k 0 ≤ a.ca) := by
  obtain ⟨_, h2, h3, _⟩ := fitsN_zero h
  have hk := (List.getElem?_eq_some_iff.1 ha).1
  obtain ⟨n, hn⟩ := at_ (l := x) (k := k) (by omega)
  have h5 := zall.1 h3 k a n ha hn
  rw [List.getD_eq_getElem?_getD, hn]
  simp only [fitB, decide_eq_true_eq] at h5
  simp only [Option.getD_some]
  omega
theorem safe_room {s : List Int} {l : List PArc} {x : List Int} (side : List Bool) (hw : ∀ a ∈ l, wholeB s.length a = true) (h : fitsN s l x = 0) (hno : ∀ a ∈ l, stp s.length side a = false) (k : Nat) : arcW (ind side) l x k ≤ roomV s.length side l k := by
  induction k with
  | zero => exact Int.le_refl _
  | succ k ih =>
    cases ha : l[k]? with
    | none =>
      rw [arcW, roomV, ha]
      exact ih
    | some a =>
      have hm := List.mem_of_getElem? ha
      have h1 := fit_one h ha
      have h2 := hno a hm
      rw [arcW_succ ha, roomV_succ ha]
      generalize x.getD k 0 = n at *
      generalize arcW (ind side) l x k = W at *
      generalize roomV s.length side l k = V at *
      unfold stp crs at h2
      unfold roomA crs ind
      rw [hw a hm] at h2 ⊢
      cases e1 : sd side a.fr.toNat <;> cases e2 : sd side a.dt.toNat <;> simp [e1, e2] at h2 ⊢ <;> omega
theorem roomV_big {N : Nat} {side : List Bool} {l : List PArc} (hr : ∀ a ∈ l, rgA a) (k : Nat) : -(9223372036854775808 * (k : Int)) ≤ roomV N side l k ∧ roomV N side l k ≤ 9223372036854775808 * k := by
  induction k with
  | zero => simp [roomV]
  | succ k ih =>
    cases ha : l[k]? with
    | none =>
      rw [roomV, ha]
      dsimp only
      omega
    | some a =>
      have h1 := hr a (List.mem_of_getElem? ha)
      unfold rgA at h1
      rw [roomV_succ ha]
      unfold roomA
      split
      · split <;> omega
      · omega
theorem need_big {side : List Bool} {s : List Int} (hs : ∀ n ∈ s, -9223372036854775808 ≤ n ∧ n ≤ 9223372036854775807) (k : Nat) : -(9223372036854775808 * (k : Int)) ≤ (needL side s k).sum ∧ (needL side s k).sum ≤ 9223372036854775808 * k := by
  induction k with
  | zero => simp [needL]
  | succ k ih =>
    cases hu : s[k]? with
    | none =>
      rw [needL, hu]
      dsimp only
      omega
    | some u =>
      have h1 := hs u (List.mem_of_getElem? hu)
      rw [needL_succ hu]
      split
      · rw [List.sum_append]
        simp only [List.sum_cons, List.sum_nil]
        omega
      · omega
theorem cn_need {side : List Bool} {s : List Int} (hs : ∀ n ∈ s, -9223372036854775808 ≤ n ∧ n ≤ 9223372036854775807) (hl : s.length ≤ 1000) : cn (needV side s) = needV side s := by
  have := need_big (side := side) hs s.length
  unfold needV
  rw [sumL_eq]
  have h8 : ((s.length : Nat) : Int) ≤ 1000 := by omega
  generalize ((s.length : Nat) : Int) = L at *
  exact cn_in (by omega) (by omega)
theorem cn_room {N : Nat} {side : List Bool} {l : List PArc} (hr : ∀ a ∈ l, rgA a) (hl : l.length ≤ 1000) : cn (roomV N side l l.length) = roomV N side l l.length := by
  have := roomV_big (N := N) (side := side) hr l.length
  have h8 : ((l.length : Nat) : Int) ≤ 1000 := by omega
  generalize ((l.length : Nat) : Int) = L at *
  exact cn_in (by omega) (by omega)
theorem any_false {α : Type} {p : α → Bool} {l : List α} (h : ¬ l.any p = true) : ∀ a ∈ l, p a = false := fun a ha => by
  cases hp : p a with
  | false => rfl
  | true => exact absurd (List.any_eq_true.2 ⟨a, ha, hp⟩) h
/-- Where a side proves it, no flow fits. -/
theorem proved_not {s : List Int} {l : List PArc} {side : List Bool} {x : List Int} (hp : provesN s l side = 0) (hf : fitsN s l x = 0) (hw : ∀ a ∈ l, wholeB s.length a = true) (hr : ∀ a ∈ l, rgA a) (hx : ∀ n ∈ x, -9223372036854775808 ≤ n ∧ n ≤ 9223372036854775807) (hs : ∀ n ∈ s, -9223372036854775808 ≤ n ∧ n ≤ 9223372036854775807) (hl : l.length ≤ 1000) (hsl : s.length ≤ 1000) : False := by
  unfold provesN at hp
  split at hp
  · rename_i h
    exact h hp
  · split at hp
    · cases hp
    · split at hp
      · cases hp
      · rename_i hany
        split at hp
        · cases hp
        · rename_i hc
          rw [cn_need hs hsl, cn_room hr hl, ← safe_need side hw (fits_net hf hw hx hl hs)] at hc
          exact hc (safe_room side hw hf (any_false hany) l.length)
end Go.Proofs.Ytiboffhdabeiiaa
