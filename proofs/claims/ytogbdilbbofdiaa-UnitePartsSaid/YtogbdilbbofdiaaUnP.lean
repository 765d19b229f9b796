/-
  unite, plain: a forest with ranks, groups told by their least numbers, and what a join does to them. No program in sight.
-/
import Init
namespace Go.Proofs.Ytogbdilbbofdiaa

/-- A forest: ups lead to numbers below n, by a rank that grows; g is each one's head. -/
structure Forest (n : Nat) (up : List Nat) (g rk : Nat → Nat) (K : Nat) : Prop where
  len : up.length = n
  lt : ∀ i j : Nat, up[i]? = some j → j < n
  keep : ∀ i j : Nat, up[i]? = some j → g j = g i
  top : ∀ i : Nat, up[i]? = some i → g i = i
  rank : ∀ i j : Nat, up[i]? = some j → j ≠ i → rk i < rk j
  most : ∀ i : Nat, i < n → rk i ≤ K
  glt : ∀ i : Nat, i < n → g i < n
  gtop : ∀ i : Nat, i < n → up[g i]? = some (g i)

theorem Forest.halve {n K : Nat} {up : List Nat} {g rk : Nat → Nat} (h : Forest n up g rk K) {i j k : Nat} (hi : up[i]? = some j) (hj : up[j]? = some k) (hne : j ≠ i) : Forest n (up.set i k) g rk K := by
  have hil : i < n := by have := (List.getElem?_eq_some_iff.1 hi).1; have := h.len; omega
  have hget : ∀ a b : Nat, (up.set i k)[a]? = some b → (a = i ∧ b = k) ∨ (a ≠ i ∧ up[a]? = some b) := by
    intro a b hab
    rw [List.getElem?_set] at hab
    split at hab
    · rename_i e; split at hab
      · left; exact ⟨e.symm, by simpa using hab.symm⟩
      · cases hab
    · rename_i e; exact .inr ⟨fun e' => e e'.symm, hab⟩
  have hrk : rk j ≤ rk k := by
    by_cases e : k = j
    · rw [e]; exact Nat.le_refl _
    · exact Nat.le_of_lt (h.rank j k hj e)
  have hij := h.rank i j hi hne
  refine ⟨by simpa using h.len, ?_, ?_, ?_, ?_, h.most, h.glt, ?_⟩
  · intro a b hab
    rcases hget a b hab with ⟨_, rfl⟩ | ⟨_, hab⟩
    · exact h.lt j _ hj
    · exact h.lt a b hab
  · intro a b hab
    rcases hget a b hab with ⟨rfl, rfl⟩ | ⟨_, hab⟩
    · exact (h.keep j _ hj).trans (h.keep _ j hi)
    · exact h.keep a b hab
  · intro a hab
    rcases hget a a hab with ⟨rfl, rfl⟩ | ⟨_, hab⟩
    · omega
    · exact h.top a hab
  · intro a b hab hba
    rcases hget a b hab with ⟨rfl, rfl⟩ | ⟨_, hab⟩
    · omega
    · exact h.rank a b hab hba
  · intro a ha
    have hg := h.gtop a ha
    rw [List.getElem?_set]
    split
    · rename_i e
      rw [← e] at hg
      rw [hi] at hg
      exact absurd (Option.some.inj hg) hne
    · exact hg

/-- What a join does to the groups' numbers. -/
def mix (x y n : Nat) : Nat := if n = x ∨ n = y then min x y else n
theorem mix_in {x y n : Nat} (h : n = x ∨ n = y) : mix x y n = min x y := if_pos h
theorem mix_out {x y n : Nat} (h : ¬ (n = x ∨ n = y)) : mix x y n = n := if_neg h
theorem mix_comm (x y n : Nat) : mix x y n = mix y x n := by
  unfold mix
  rw [Nat.min_comm]
  split <;> split <;> first | rfl | (exfalso; omega)

/-- The number of a's group, by its least one; there is none beyond. -/
def of_ (L : List Nat) (a : Int) : Option Nat := if 0 ≤ a then L[a.toNat]? else none
/-- How many groups. -/
def roots (L : List Nat) : Nat := (List.range L.length).countP fun i => L[i]? == some i
def joinB (L : List Nat) (a b : Int) : Bool := match of_ L a, of_ L b with
  | some x, some y => x != y
  | _, _ => false
def joinL (L : List Nat) (a b : Int) : List Nat := match of_ L a, of_ L b with
  | some x, some y => L.map (mix x y)
  | _, _ => L

structure Data (L least : List Nat) (g : Nat → Nat) (left : Nat) : Prop where
  least : ∀ i l : Nat, L[i]? = some l → least[g i]? = some l
  same : ∀ i j l : Nat, L[i]? = some l → L[j]? = some l → g i = g j
  le : ∀ i l : Nat, L[i]? = some l → l ≤ i
  idem : ∀ i l : Nat, L[i]? = some l → L[l]? = some l
  left : left = roots L

theorem of_none {L : List Nat} {a : Int} (h : of_ L a = none) : a < 0 ∨ (L.length : Int) ≤ a := by
  unfold of_ at h
  split at h
  · have := List.getElem?_eq_none_iff.1 h; omega
  · omega
theorem of_some {L : List Nat} {a : Int} {l : Nat} (h : of_ L a = some l) : ∃ i : Nat, a = i ∧ i < L.length ∧ L[i]? = some l := by
  unfold of_ at h
  split at h
  · exact ⟨a.toNat, by omega, (List.getElem?_eq_some_iff.1 h).1, h⟩
  · cases h


theorem Forest.gg {n K : Nat} {up : List Nat} {g rk : Nat → Nat} (h : Forest n up g rk K) {i : Nat} (hi : i < n) : g (g i) = g i := h.top _ (h.gtop i hi)

theorem Forest.union {n K : Nat} {up : List Nat} {g rk : Nat → Nat} (h : Forest n up g rk K) {x y : Nat} (hx : x < n) (hy : y < n) (gx : g x = x) (gy : g y = y) (hne : x ≠ y) :
    Forest n (up.set y x) (fun i => if g i = y then x else g i) (fun i => if g i = x then rk i + K + 1 else rk i) (2 * K + 1) := by
  have hget : ∀ a b : Nat, (up.set y x)[a]? = some b → (a = y ∧ b = x) ∨ (a ≠ y ∧ up[a]? = some b) := by
    intro a b hab
    rw [List.getElem?_set] at hab
    split at hab
    · rename_i e; split at hab
      · left; exact ⟨e.symm, by simpa using hab.symm⟩
      · cases hab
    · rename_i e; exact .inr ⟨fun e' => e e'.symm, hab⟩
  have hset : ∀ a : Nat, a ≠ y → (up.set y x)[a]? = up[a]? := fun a ha => by rw [List.getElem?_set]; rw [if_neg (fun e => ha e.symm)]
  refine ⟨by simpa using h.len, ?_, ?_, ?_, ?_, ?_, ?_, ?_⟩
  · intro i j hij
    rcases hget i j hij with ⟨_, rfl⟩ | ⟨_, hij⟩
    · exact hx
    · exact h.lt i j hij
  · intro i j hij
    rcases hget i j hij with ⟨rfl, rfl⟩ | ⟨_, hij⟩
    · simp [gx, gy, hne]
    · simp [h.keep i j hij]
  · intro i hii
    rcases hget i i hii with ⟨rfl, e⟩ | ⟨hi, hii⟩
    · exact absurd e.symm hne
    · simp [h.top i hii, hi]
  · intro i j hij hji
    rcases hget i j hij with ⟨rfl, rfl⟩ | ⟨_, hij⟩
    · have := h.most _ hy
      simp only [gx, gy, if_pos, if_neg (fun e => hne (Eq.symm e))]
      omega
    · have := h.rank i j hij hji
      simp only [h.keep i j hij]
      split <;> omega
  · intro i hi
    have := h.most i hi
    split <;> omega
  · intro i hi
    split
    · exact hx
    · exact h.glt i hi
  · intro i hi
    split
    · rw [hset x hne]
      have := h.gtop x hx
      rwa [gx] at this
    · rename_i e
      rw [hset _ e]
      exact h.gtop i hi

theorem countP_one (p q : Nat → Bool) (M : Nat) (hp : p M = true) (hq : q M = false) (h : ∀ i, i ≠ M → p i = q i) :
    ∀ n, (List.range n).countP p = (List.range n).countP q + if M < n then 1 else 0
  | 0 => by simp
  | n + 1 => by
    rw [List.range_succ, List.countP_append, List.countP_append, countP_one p q M hp hq h n]
    by_cases e : n = M
    · subst e
      simp [hp, hq]
    · have h1 := h n e
      simp only [List.countP_singleton, h1]
      by_cases hlt : M < n
      · simp [hlt, show M < n + 1 by omega]; omega
      · simp [hlt, show ¬ M < n + 1 by omega]

theorem Data.union {L least : List Nat} {g : Nat → Nat} {left : Nat} (d : Data L least g left) {a b lx ly x y : Nat} (ha : L[a]? = some lx) (hb : L[b]? = some ly) (hl : lx ≠ ly)
    (hx : g a = x) (hy : g b = y) (hxn : x < least.length) :
    Data (L.map (mix lx ly)) (least.set x (min lx ly)) (fun i => if g i = y then x else g i) (left - 1) ∧ 1 ≤ left := by
  subst hx
  subst hy
  have lgx := d.least a lx ha
  have lgy := d.least b ly hb
  have hne : g a ≠ g b := fun e => hl (by rw [e] at lgx; rw [lgx] at lgy; exact Option.some.inj lgy)
  have hget : ∀ i l' : Nat, (L.map (mix lx ly))[i]? = some l' → ∃ l, L[i]? = some l ∧ l' = mix lx ly l := by
    intro i l' h
    rw [List.getElem?_map] at h
    cases e : L[i]? with
    | none => rw [e] at h; cases h
    | some l => rw [e] at h; exact ⟨l, rfl, (Option.some.inj h).symm⟩
  have hput : ∀ i l : Nat, L[i]? = some l → (L.map (mix lx ly))[i]? = some (mix lx ly l) := fun i l h => by rw [List.getElem?_map, h]; rfl
  have hin : ∀ i l : Nat, L[i]? = some l → (l = lx ∨ l = ly) → g i = g a ∨ g i = g b := by
    intro i l h e
    rcases e with rfl | rfl
    · exact .inl (d.same i a _ h ha)
    · exact .inr (d.same i b _ h hb)
  have hout : ∀ i l : Nat, L[i]? = some l → ¬ (l = lx ∨ l = ly) → g i ≠ g a ∧ g i ≠ g b := by
    intro i l h e
    have := d.least i l h
    refine ⟨fun e' => e ?_, fun e' => e ?_⟩
    · rw [e', lgx] at this; exact .inl (Option.some.inj this).symm
    · rw [e', lgy] at this; exact .inr (Option.some.inj this).symm
  have hgi : ∀ i l : Nat, L[i]? = some l → (l = lx ∨ l = ly) → (if g i = g b then g a else g i) = g a := by
    intro i l h e
    rcases hin i l h e with e' | e' <;> simp [e']
  have hM : min lx ly = lx ∨ min lx ly = ly := by omega
  have hidx := d.idem a lx ha
  have hidy := d.idem b ly hb
  have hroot : roots L = roots (L.map (mix lx ly)) + 1 := by
    unfold roots
    rw [List.length_map]
    have := countP_one (fun i => L[i]? == some i) (fun i => (L.map (mix lx ly))[i]? == some i) (max lx ly) ?_ ?_ ?_ L.length
    · rw [this, if_pos]
      rcases (show max lx ly = lx ∨ max lx ly = ly by omega) with e | e <;> rw [e]
      · exact (List.getElem?_eq_some_iff.1 hidx).1
      · exact (List.getElem?_eq_some_iff.1 hidy).1
    · rcases (show max lx ly = lx ∨ max lx ly = ly by omega) with e | e <;> rw [e]
      · simp [hidx]
      · simp [hidy]
    · rcases (show max lx ly = lx ∨ max lx ly = ly by omega) with e | e <;> rw [e]
      · rw [hput _ _ hidx, mix_in (.inl rfl)]
        simp; omega
      · rw [hput _ _ hidy, mix_in (.inr rfl)]
        simp; omega
    · intro i hi
      cases e : L[i]? with
      | none => simp [e]
      | some l =>
        rw [hput _ _ e]
        by_cases hm : l = lx ∨ l = ly
        · rw [mix_in hm]
          have h1 := d.le i l e
          by_cases e1 : l = i
          · subst e1
            have : min lx ly = l := by omega
            rw [this]
          · have h2 : min lx ly ≠ i := by
              intro e2
              have h3 : L[min lx ly]? = some (min lx ly) := by rcases hM with e3 | e3 <;> rw [e3] <;> assumption
              rw [e2] at h3
              rw [h3] at e
              exact e1 (Option.some.inj e).symm
            have e1' : (some l == some i) = false := by simp [e1]
            have h2' : (some (min lx ly) == some i) = false := by simp [h2]
            rw [e1', h2']
        · rw [mix_out hm]
  refine ⟨⟨?_, ?_, ?_, ?_, ?_⟩, by rw [d.left, hroot]; omega⟩
  · intro i l' h
    obtain ⟨l, hl1, rfl⟩ := hget i l' h
    by_cases hm : l = lx ∨ l = ly
    · rw [mix_in hm]
      rw [hgi i l hl1 hm, List.getElem?_set, if_pos rfl, if_pos hxn]
    · obtain ⟨n1, n2⟩ := hout i l hl1 hm
      rw [mix_out hm]
      rw [if_neg n2, List.getElem?_set, if_neg (fun e => n1 e.symm)]
      exact d.least i l hl1
  · intro i j l' h h'
    obtain ⟨l, hl1, e1⟩ := hget i l' h
    obtain ⟨k, hl2, e2⟩ := hget j l' h'
    by_cases hm : l = lx ∨ l = ly
    · by_cases hk : k = lx ∨ k = ly
      · rw [hgi i l hl1 hm, hgi j k hl2 hk]
      · rw [mix_in hm] at e1
        rw [mix_out hk] at e2
        exact absurd (by rw [← e2, e1]; exact hM) hk
    · by_cases hk : k = lx ∨ k = ly
      · rw [mix_in hk] at e2
        rw [mix_out hm] at e1
        exact absurd (by rw [← e1, e2]; exact hM) hm
      · rw [mix_out hk] at e2
        rw [mix_out hm] at e1
        subst e1
        subst e2
        rw [d.same i j _ hl1 hl2]
  · intro i l' h
    obtain ⟨l, hl1, rfl⟩ := hget i l' h
    have := d.le i l hl1
    by_cases hm : l = lx ∨ l = ly
    · rw [mix_in hm]; omega
    · rw [mix_out hm]; exact this
  · intro i l' h
    obtain ⟨l, hl1, rfl⟩ := hget i l' h
    by_cases hm : l = lx ∨ l = ly
    · rw [mix_in hm]
      have h3 : L[min lx ly]? = some (min lx ly) := by rcases hM with e3 | e3 <;> rw [e3] <;> assumption
      rw [hput _ _ h3, mix_in hM]
    · rw [mix_out hm, hput _ _ (d.idem i l hl1), mix_out hm]
  · rw [d.left, hroot]
    omega

/-! ### The groups, in the order of their least numbers -/
def keysTo (L : List Nat) (k : Nat) : List Nat := (List.range k).filter fun i => L[i]? == some i
def grp (L : List Nat) (k l : Nat) : List Nat := (List.range k).filter fun i => L[i]? == some l
def groupsTo (L : List Nat) (k : Nat) : List (List Nat) := (keysTo L k).map (grp L k)
def groups (L : List Nat) : List (List Nat) := groupsTo L L.length

theorem mem_keysTo {L : List Nat} {k l : Nat} : l ∈ keysTo L k ↔ l < k ∧ L[l]? = some l := by simp [keysTo]
theorem keysTo_len (L : List Nat) (k : Nat) : (keysTo L k).length ≤ k := Nat.le_trans (List.length_filter_le _ _) (by simp)
theorem groupsTo_len (L : List Nat) (k : Nat) : (groupsTo L k).length = (keysTo L k).length := by simp [groupsTo]
theorem keysTo_succ (L : List Nat) (k : Nat) : keysTo L (k + 1) = keysTo L k ++ if L[k]? = some k then [k] else [] := by
  unfold keysTo
  rw [List.range_succ, List.filter_append]
  by_cases h : L[k]? = some k <;> simp [h]
theorem grp_succ (L : List Nat) (k l : Nat) : grp L (k + 1) l = grp L k l ++ if L[k]? = some l then [k] else [] := by
  unfold grp
  rw [List.range_succ, List.filter_append]
  by_cases h : L[k]? = some l <;> simp [h]
theorem keysTo_nodup (L : List Nat) (k : Nat) : (keysTo L k).Nodup := List.Pairwise.filter _ List.nodup_range
theorem nodup_at {l : List Nat} (h : l.Nodup) {i j x : Nat} (hi : l[i]? = some x) (hj : l[j]? = some x) : i = j := by
  have h1 := (List.getElem?_inj (List.getElem?_eq_some_iff.1 hi).1 h).1 (hi.trans hj.symm)
  exact h1

theorem groupsTo_new {L : List Nat} (hle : ∀ i l : Nat, L[i]? = some l → l ≤ i) {k : Nat} (h : L[k]? = some k) : groupsTo L (k + 1) = groupsTo L k ++ [[k]] := by
  unfold groupsTo
  rw [keysTo_succ, if_pos h, List.map_append]
  congr 1
  · apply List.map_congr_left
    intro l hl
    have := (mem_keysTo.1 hl).1
    rw [grp_succ, if_neg, List.append_nil]
    rw [h]
    intro e
    have := Option.some.inj e
    omega
  · simp only [List.map_cons, List.map_nil]
    rw [grp_succ, if_pos h]
    have : grp L k k = [] := by
      unfold grp
      rw [List.filter_eq_nil_iff]
      intro i hi
      have hi' : i < k := by simpa using hi
      intro e
      have e' : L[i]? = some k := by simpa using e
      have := hle i k e'
      omega
    rw [this, List.nil_append]
theorem groupsTo_old {L : List Nat} {k l n : Nat} (h : L[k]? = some l) (hk : l ≠ k) (hn : (keysTo L k)[n]? = some l) : (groupsTo L k)[n]? = some (grp L k l) ∧ groupsTo L (k + 1) = (groupsTo L k).set n (grp L k l ++ [k]) := by
  have hnl := (List.getElem?_eq_some_iff.1 hn).1
  refine ⟨by simp [groupsTo, hn], ?_⟩
  unfold groupsTo
  have hne : ¬ L[k]? = some k := by rw [h]; intro e; exact hk (Option.some.inj e)
  rw [keysTo_succ, if_neg hne, List.append_nil]
  apply List.ext_getElem?
  intro i
  rw [List.getElem?_set]
  by_cases hi : n = i
  · subst hi
    rw [if_pos rfl, List.getElem?_map, hn]
    simp [hnl, grp_succ, h]
  · rw [if_neg hi, List.getElem?_map, List.getElem?_map]
    cases e : (keysTo L k)[i]? with
    | none => rfl
    | some l' =>
      have hl' : l' ≠ l := by
        rintro rfl
        exact hi (nodup_at (keysTo_nodup L k) hn e)
      simp only [Option.map_some]
      rw [grp_succ, if_neg, List.append_nil]
      rw [h]
      intro e'
      exact hl' (Option.some.inj e').symm

/-- The map of heads so far: from a head to its group's place. -/
structure Places (L : List Nat) (g : Nat → Nat) (k : Nat) (f : Int → Option Int) : Prop where
  is : ∀ i l : Nat, i < k → L[i]? = some l → ∃ n : Nat, (keysTo L k)[n]? = some l ∧ f (g i) = some (n : Int)
  only : ∀ (x v : Int), f x = some v → ∃ i : Nat, i < k ∧ x = g i

theorem Places.zero (L : List Nat) (g : Nat → Nat) : Places L g 0 (fun _ => none) := ⟨fun i l h => by omega, fun x v h => by cases h⟩
theorem Places.met {L least : List Nat} {g : Nat → Nat} {left k l : Nat} {f : Int → Option Int} {v : Int} (p : Places L g k f) (d : Data L least g left) (hk : L[k]? = some l) (hf : f (g k) = some v) :
    l ≠ k ∧ ∃ n : Nat, v = n ∧ (keysTo L k)[n]? = some l ∧ Places L g (k + 1) f := by
  obtain ⟨i, hi, he⟩ := p.only _ _ hf
  have he' : g k = g i := by omega
  have hil : i < L.length := by have := (List.getElem?_eq_some_iff.1 hk).1; omega
  obtain ⟨l', hl'⟩ : ∃ l', L[i]? = some l' := ⟨_, List.getElem?_eq_getElem hil⟩
  have e1 := d.least k l hk
  have e2 := d.least i l' hl'
  rw [he', e2] at e1
  obtain rfl := Option.some.inj e1
  have hle := d.le i l' hl'
  have hne : l' ≠ k := by omega
  obtain ⟨n, hn, hfn⟩ := p.is i l' hi hl'
  rw [← he', hf] at hfn
  refine ⟨hne, n, Option.some.inj hfn, hn, ?_, ?_⟩
  · intro j m hj hm
    have hkk : keysTo L (k + 1) = keysTo L k := by
      rw [keysTo_succ, if_neg, List.append_nil]
      rw [hk]; intro e; exact hne (Option.some.inj e)
    rw [hkk]
    rcases Nat.lt_or_ge j k with h | h
    · exact p.is j m h hm
    · obtain rfl : j = k := by omega
      rw [hk] at hm
      obtain rfl := Option.some.inj hm
      exact ⟨n, hn, by rw [hf]; exact hfn⟩
  · intro x v hx
    obtain ⟨j, hj, e⟩ := p.only x v hx
    exact ⟨j, by omega, e⟩
theorem Places.new {L least : List Nat} {g : Nat → Nat} {left k l : Nat} {f : Int → Option Int} (p : Places L g k f) (d : Data L least g left) (hk : L[k]? = some l) (hf : f (g k) = none) :
    l = k ∧ Places L g (k + 1) (fun y => if y = (g k : Int) then some ((keysTo L k).length : Int) else f y) := by
  have hle := d.le k l hk
  have hlk : l = k := by
    rcases Nat.lt_or_ge l k with h | h
    · have h1 := d.idem k l hk
      obtain ⟨n, _, hn⟩ := p.is l l h h1
      rw [← d.same k l l hk h1, hf] at hn
      cases hn
    · omega
  subst hlk
  refine ⟨rfl, ?_, ?_⟩
  · intro j m hj hm
    rw [keysTo_succ, if_pos hk]
    rcases Nat.lt_or_ge j l with h | h
    · obtain ⟨n, hn, hfn⟩ := p.is j m h hm
      refine ⟨n, by rw [List.getElem?_append_left (List.getElem?_eq_some_iff.1 hn).1]; exact hn, ?_⟩
      rw [if_neg]
      · exact hfn
      · intro e
        have : g j = g l := by omega
        rw [this, hf] at hfn
        cases hfn
    · obtain rfl : j = l := by omega
      rw [hk] at hm
      obtain rfl := Option.some.inj hm
      exact ⟨(keysTo L j).length, by simp, by rw [if_pos rfl]⟩
  · intro x v hx
    by_cases e : x = (g l : Int)
    · exact ⟨l, by omega, e⟩
    · simp only [if_neg e] at hx
      obtain ⟨j, hj, e'⟩ := p.only x v hx
      exact ⟨j, by omega, e'⟩
end Go.Proofs.Ytogbdilbbofdiaa
