/-
  unite, plain: in whatever order pairs are joined, and whichever way round, the groups are the same. No program in sight.
-/
import Derived.Test.YtogbdilbbofdiaaUnP
namespace Go.Proofs.Ytogbdilbbofdiaa

/-- Each number's group is told by its least one. -/
structure Canon (L : List Nat) : Prop where
  le : ∀ i l : Nat, L[i]? = some l → l ≤ i
  idem : ∀ i l : Nat, L[i]? = some l → L[l]? = some l

theorem joinL_len (L : List Nat) (a b : Int) : (joinL L a b).length = L.length := by
  unfold joinL
  split <;> simp
theorem map_at {L : List Nat} {f : Nat → Nat} {i l' : Nat} (h : (L.map f)[i]? = some l') : ∃ l, L[i]? = some l ∧ l' = f l := by
  rw [List.getElem?_map] at h
  cases e : L[i]? with
  | none => rw [e] at h; cases h
  | some l => rw [e] at h; exact ⟨l, rfl, (Option.some.inj h).symm⟩
theorem map_put {L : List Nat} {f : Nat → Nat} {i l : Nat} (h : L[i]? = some l) : (L.map f)[i]? = some (f l) := by rw [List.getElem?_map, h]; rfl

theorem joinL_cases (L : List Nat) (a b : Int) : joinL L a b = L ∨ ∃ i j x y : Nat, a = i ∧ b = j ∧ L[i]? = some x ∧ L[j]? = some y ∧ joinL L a b = L.map (mix x y) := by
  unfold joinL
  cases ha : of_ L a with
  | none => exact .inl rfl
  | some x =>
    cases hb : of_ L b with
    | none => exact .inl rfl
    | some y =>
      obtain ⟨i, rfl, _, hi⟩ := of_some ha
      obtain ⟨j, rfl, _, hj⟩ := of_some hb
      exact .inr ⟨i, j, x, y, rfl, rfl, hi, hj, rfl⟩

theorem Canon.join {L : List Nat} (h : Canon L) (a b : Int) : Canon (joinL L a b) := by
  rcases joinL_cases L a b with e | ⟨i, j, x, y, _, _, hi, hj, e⟩
  · rw [e]; exact h
  · rw [e]
    have hM : min x y = x ∨ min x y = y := by omega
    have hx := h.idem i x hi
    have hy := h.idem j y hj
    refine ⟨fun k l' hk => ?_, fun k l' hk => ?_⟩
    · obtain ⟨l, hl, rfl⟩ := map_at hk
      have := h.le k l hl
      unfold mix
      split <;> omega
    · obtain ⟨l, hl, rfl⟩ := map_at hk
      by_cases hm : l = x ∨ l = y
      · rw [mix_in hm]
        have h3 : L[min x y]? = some (min x y) := by rcases hM with e3 | e3 <;> rw [e3] <;> assumption
        rw [map_put h3, mix_in hM]
      · rw [mix_out hm, map_put (h.idem k l hl), mix_out hm]
theorem Canon.range (n : Nat) : Canon (List.range n) := by
  refine ⟨fun i l h => ?_, fun i l h => ?_⟩
  · obtain ⟨h1, h2⟩ := List.getElem?_eq_some_iff.1 h
    simp at h2
    omega
  · obtain ⟨h1, h2⟩ := List.getElem?_eq_some_iff.1 h
    simp at h1 h2
    subst h2
    exact h

/-- A pair of numbers that are there. -/
def valid (n : Nat) (a b : Int) : Prop := 0 ≤ a ∧ a < n ∧ 0 ≤ b ∧ b < n
/-- What is in one group is of one colour under each colouring that gives the ends of each pair one. -/
def Sound (L : List Nat) (P : Int → Int → Prop) : Prop :=
  ∀ c : Nat → Nat, (∀ i j : Nat, i < L.length → j < L.length → P i j → c i = c j) → ∀ i j l : Nat, L[i]? = some l → L[j]? = some l → c i = c j
/-- The ends of each pair are in one group. -/
def Full (L : List Nat) (P : Int → Int → Prop) : Prop := ∀ i j : Nat, i < L.length → j < L.length → P i j → L[i]? = L[j]?

theorem Sound.join {L : List Nat} {P Q : Int → Int → Prop} (h : Sound L P) (a b : Int) (hP : ∀ x y, P x y → Q x y) (hab : Q a b ∨ Q b a) : Sound (joinL L a b) Q := by
  intro c hc i j l hi hj
  rw [joinL_len] at hc
  have h1 := h c fun i j hi hj hp => hc i j hi hj (hP _ _ hp)
  rcases joinL_cases L a b with e | ⟨p, q, x, y, rfl, rfl, hp, hq, e⟩
  · rw [e] at hi hj; exact h1 i j l hi hj
  · rw [e] at hi hj
    have hpl := (List.getElem?_eq_some_iff.1 hp).1
    have hql := (List.getElem?_eq_some_iff.1 hq).1
    have hpq : c p = c q := by
      rcases hab with h2 | h2
      · exact hc p q hpl hql h2
      · exact (hc q p hql hpl h2).symm
    obtain ⟨k, hk, e1⟩ := map_at hi
    obtain ⟨m, hm, e2⟩ := map_at hj
    have to_p : ∀ i k, L[i]? = some k → (k = x ∨ k = y) → c i = c p := by
      intro i k hk hkk
      rcases hkk with rfl | rfl
      · exact h1 i p _ hk hp
      · exact (h1 i q _ hk hq).trans hpq.symm
    have hM : min x y = x ∨ min x y = y := by omega
    by_cases hkk : k = x ∨ k = y
    · by_cases hmm : m = x ∨ m = y
      · exact (to_p i k hk hkk).trans (to_p j m hm hmm).symm
      · rw [mix_in hkk] at e1
        rw [mix_out hmm] at e2
        exact absurd (by rw [← e2, e1]; exact hM) hmm
    · by_cases hmm : m = x ∨ m = y
      · rw [mix_in hmm] at e2
        rw [mix_out hkk] at e1
        exact absurd (by rw [← e1, e2]; exact hM) hkk
      · rw [mix_out hkk] at e1
        rw [mix_out hmm] at e2
        subst e1
        subst e2
        exact h1 i j _ hk hm
theorem Full.join {L : List Nat} {P Q : Int → Int → Prop} (h : Full L P) (a b : Int) (hQ : ∀ x y, Q x y → P x y ∨ (x = a ∧ y = b) ∨ (x = b ∧ y = a)) : Full (joinL L a b) Q := by
  intro i j hi hj hq
  rw [joinL_len] at hi hj
  have old : L[i]? = L[j]? → (joinL L a b)[i]? = (joinL L a b)[j]? := by
    intro h2
    rcases joinL_cases L a b with e | ⟨p, q, x, y, _, _, _, _, e⟩
    · rw [e]; exact h2
    · rw [e, List.getElem?_map, List.getElem?_map, h2]
  have new_ : ∀ i j : Nat, i < L.length → j < L.length → (i : Int) = a → (j : Int) = b → (joinL L a b)[i]? = (joinL L a b)[j]? := by
    intro i j hi hj ea eb
    subst ea
    subst eb
    have e1 : of_ L (i : Int) = some L[i] := by simp [of_, hi]
    have e2 : of_ L (j : Int) = some L[j] := by simp [of_, hj]
    have e : joinL L (i : Int) (j : Int) = L.map (mix L[i] L[j]) := by simp [joinL, e1, e2]
    rw [e, map_put (List.getElem?_eq_getElem hi), map_put (List.getElem?_eq_getElem hj), mix_in (.inl rfl), mix_in (.inr rfl)]
  rcases hQ _ _ hq with h2 | ⟨ea, eb⟩ | ⟨eb, ea⟩
  · exact old (h i j hi hj h2)
  · exact new_ i j hi hj ea eb
  · exact (new_ j i hj hi ea eb).symm

/-- Two lists of groups, both of the same pairs: they are the same. -/
theorem canon_unique {L M : List Nat} {P Q : Int → Int → Prop} (hl : L.length = M.length) (cL : Canon L) (cM : Canon M) (sL : Sound L P) (fL : Full L Q) (sM : Sound M Q) (fM : Full M P) : L = M := by
  have half : ∀ {L M : List Nat} {P : Int → Int → Prop}, L.length = M.length → Canon L → Canon M → Sound L P → Full M P → ∀ i l m : Nat, L[i]? = some l → M[i]? = some m → m ≤ l := by
    intro L M P hl cL cM sL fM i l m hi hm
    have h1 := cL.idem i l hi
    have h2 := sL (fun k => (M[k]?).getD 0) (fun i j hi hj hp => by rw [fM i j (by omega) (by omega) hp]) i l l hi h1
    have hlM : l < M.length := by have := (List.getElem?_eq_some_iff.1 h1).1; omega
    obtain ⟨m', hm'⟩ : ∃ m', M[l]? = some m' := ⟨_, List.getElem?_eq_getElem hlM⟩
    rw [hm, hm'] at h2
    simp at h2
    subst h2
    exact cM.le l _ hm'
  apply List.ext_getElem?
  intro i
  cases e1 : L[i]? with
  | none =>
    rw [List.getElem?_eq_none_iff] at e1
    symm
    rw [List.getElem?_eq_none_iff]
    omega
  | some l =>
    have hi : i < M.length := by have := (List.getElem?_eq_some_iff.1 e1).1; omega
    have e2 : M[i]? = some M[i] := List.getElem?_eq_getElem hi
    have h1 := half hl cL cM sL fM i l _ e1 e2
    have h2 := half hl.symm cM cL sM fL i _ l e2 e1
    rw [e2]
    congr 1
    omega

def joins (L : List Nat) (prs : List (Int × Int)) : List Nat := prs.foldl (fun L p => joinL L p.1 p.2) L
theorem joins_snoc (L : List Nat) (prs : List (Int × Int)) (p : Int × Int) : joins L (prs ++ [p]) = joinL (joins L prs) p.1 p.2 := by simp [joins]
theorem joins_len (L : List Nat) (prs : List (Int × Int)) : (joins L prs).length = L.length := by
  unfold joins
  induction prs generalizing L with
  | nil => rfl
  | cons p r ih => rw [List.foldl_cons, ih, joinL_len]
theorem joins_canon {L : List Nat} (h : Canon L) (prs : List (Int × Int)) : Canon (joins L prs) := by
  unfold joins
  induction prs generalizing L with
  | nil => exact h
  | cons p r ih => rw [List.foldl_cons]; exact ih (h.join _ _)
theorem range_sound (n : Nat) (P : Int → Int → Prop) : Sound (List.range n) P := by
  intro c _ i j l hi hj
  obtain ⟨_, h2⟩ := List.getElem?_eq_some_iff.1 hi
  obtain ⟨_, h3⟩ := List.getElem?_eq_some_iff.1 hj
  simp at h2 h3
  rw [h2, h3]
theorem joins_sound {P : Int → Int → Prop} (prs : List (Int × Int)) : ∀ {L : List Nat}, Sound L P → (∀ p ∈ prs, P p.1 p.2 ∨ P p.2 p.1) → Sound (joins L prs) P := by
  unfold joins
  induction prs with
  | nil => intro L h _; exact h
  | cons p r ih =>
    intro L h hp
    rw [List.foldl_cons]
    exact ih (h.join _ _ (fun _ _ h => h) (hp p (List.mem_cons_self))) fun q hq => hp q (List.mem_cons_of_mem _ hq)
theorem joins_full (prs : List (Int × Int)) : ∀ {L : List Nat} {P Q : Int → Int → Prop}, Full L P → (∀ x y, Q x y → P x y ∨ (x, y) ∈ prs ∨ (y, x) ∈ prs) → Full (joins L prs) Q := by
  unfold joins
  induction prs with
  | nil =>
    intro L P Q h hQ i j hi hj hq
    rcases hQ _ _ hq with h2 | h2 | h2
    · exact h i j hi hj h2
    · simp at h2
    · simp at h2
  | cons p r ih =>
    intro L P Q h hQ
    rw [List.foldl_cons]
    refine ih (P := fun x y => P x y ∨ (x = p.1 ∧ y = p.2) ∨ (x = p.2 ∧ y = p.1)) (h.join _ _ fun x y h => h) fun x y hq => ?_
    rcases hQ x y hq with h2 | h2 | h2
    · exact .inl (.inl h2)
    · rcases List.mem_cons.1 h2 with e | h3
      · exact .inl (.inr (.inl (by rw [← e]; exact ⟨rfl, rfl⟩)))
      · exact .inr (.inl h3)
    · rcases List.mem_cons.1 h2 with e | h3
      · exact .inl (.inr (.inr (by rw [← e]; exact ⟨rfl, rfl⟩)))
      · exact .inr (.inr h3)

/-- IN WHATEVER ORDER, WHICHEVER WAY ROUND. -/
theorem joins_any (n : Nat) (prs qrs : List (Int × Int)) (h1 : ∀ p ∈ prs, p ∈ qrs ∨ (p.2, p.1) ∈ qrs) (h2 : ∀ p ∈ qrs, p ∈ prs ∨ (p.2, p.1) ∈ prs) : joins (List.range n) prs = joins (List.range n) qrs := by
  refine canon_unique (P := fun x y => (x, y) ∈ prs ∨ (y, x) ∈ prs) (Q := fun x y => (x, y) ∈ qrs ∨ (y, x) ∈ qrs) (by rw [joins_len, joins_len]) (joins_canon (Canon.range n) prs) (joins_canon (Canon.range n) qrs) ?_ ?_ ?_ ?_
  · exact joins_sound prs (range_sound n _) fun p hp => .inl (.inl hp)
  · refine joins_full prs (P := fun _ _ => False) (fun _ _ _ _ h => h.elim) fun x y h => .inr ?_
    rcases h with h | h
    · rcases h2 _ h with h3 | h3
      · exact .inl h3
      · exact .inr h3
    · rcases h2 _ h with h3 | h3
      · exact .inr h3
      · exact .inl h3
  · exact joins_sound qrs (range_sound n _) fun p hp => .inl (.inl hp)
  · refine joins_full qrs (P := fun _ _ => False) (fun _ _ _ _ h => h.elim) fun x y h => .inr ?_
    rcases h with h | h
    · rcases h1 _ h with h3 | h3
      · exact .inl h3
      · exact .inr h3
    · rcases h1 _ h with h3 | h3
      · exact .inr h3
      · exact .inl h3
end Go.Proofs.Ytogbdilbbofdiaa
