/-
  The symbolic state: a slot is put, names are made and rewritten. Plain lemmas, no program in sight.
-/
import Derived.Test.YtiboffhdabeiiaaSxA
namespace Go.Proofs.Ytiboffhdabeiiaa
open Go Go.RowKit

section
variable {F : Fm} {nt : Nat} {β β' : Nat → BI} {s : St} {a : Act} {w w' : World}

theorem SatB.put (h : SatB F nt β s a w) {t : Nat} {x : SV} (ht : t < nt) (hx : ∀ i ∈ x.ids, (getL s.hp i).isSome = true) : SatB F nt β ⟨(t, x) :: s.sl, s.hp⟩ (a.put (some t) (x.den β)) w := by
  obtain ⟨h1, h2, h3, h4, h5, h6⟩ := h
  refine ⟨h1, by simpa [Act.put] using h2, ?_, h4, ⟨?_, h5.2⟩, h6⟩
  · intro u y hu
    simp only [getL_cons] at hu
    split at hu
    · rename_i e
      subst e
      injection hu with hu
      subst hu
      simp [Act.put, h2, ht]
    · rename_i e
      have := h3 u y hu
      simp only [Act.put]
      rw [Array.getElem?_setIfInBounds_ne e]
      exact this
  · intro u y hu
    simp only [getL_cons] at hu
    split at hu
    · injection hu with hu
      subst hu
      exact hx
    · exact h5.1 u y hu

theorem SatB.skip (h : SatB F nt β s a w) (v : Value) : SatB F nt β s (a.put none v) w := h

theorem isSome_app {α : Type _} {m l : List (Nat × α)} {i : Nat} (h : (getL l i).isSome = true) : (getL (m ++ l) i).isSome = true := by
  rw [getL_append]
  cases getL m i <;> simp [h]

/-- Names are rewritten and made: wr; only blocks of rewritten names turn; what the new ones read and write is fresh, or was a rewritten one's. -/
theorem SatB.move {T : Nat → Prop} (h : SatB F nt β s a w) (wr : List (Nat × Chunk)) (hβ : ∀ i, (getL s.hp i).isSome = true → β i = β' i) (hfr : Fr T w w')
    (hT : ∀ g, T g → ∃ i c, getL s.hp i = some c ∧ (getL wr i).isSome = true ∧ Wr β i c g)
    (hok : ∀ i c, getL wr i = some c → ChOk F β' i w' c)
    (hwr : ∀ i c g, getL wr i = some c → Wr β' i c g → w.heap.size ≤ g ∨ ∃ j c0, getL s.hp j = some c0 ∧ (getL wr j).isSome = true ∧ Wr β j c0 g)
    (hbl : ∀ i c g, getL wr i = some c → Bl β' i c g → w.heap.size ≤ g ∨ ∃ j c0, getL s.hp j = some c0 ∧ Bl β j c0 g ∧ ((getL wr j).isSome = true ∨ ¬ Wr β j c0 g))
    (hsep : Sep β' wr) (hcl : ∀ i c, getL wr i = some c → ∀ j ∈ c.ids, (getL (wr ++ s.hp) j).isSome = true) : SatB F nt β' ⟨s.sl, wr ++ s.hp⟩ a w' := by
  obtain ⟨h1, h2, h3, h4, h5, h6⟩ := h
  have old : ∀ {i c}, getL (wr ++ s.hp) i = some c → getL wr i = none → getL s.hp i = some c := by
    intro i c hi hn
    rw [getL_append, hn] at hi
    simpa using hi
  have new : ∀ {i c c'}, getL (wr ++ s.hp) i = some c → getL wr i = some c' → getL wr i = some c := by
    intro i c c' hi hn
    rw [getL_append, hn] at hi
    rw [hn]
    simpa using hi
  have keepB : ∀ {i c}, getL s.hp i = some c → getL wr i = none → ∀ g, Bl β i c g → w'.heap[g]? = w.heap[g]? := by
    intro i c hi hn g hg
    refine hfr.block g ((h4.1 i c hi).lt hg) (fun ht => ?_)
    obtain ⟨j, cj, hj, hjw, hw⟩ := hT g ht
    have hne : j ≠ i := by
      rintro rfl
      rw [hn] at hjw
      simp at hjw
    exact h4.2 j i cj c hne hj hi g hw hg
  refine ⟨⟨h1.1, fun i hi => ⟨isSome_app (h1.2 i hi).1, by rw [← hβ i (h1.2 i hi).1]; exact (h1.2 i hi).2⟩⟩, h2, ?_, ⟨?_, ?_⟩, ⟨?_, ?_⟩, ?_⟩
  · intro t x ht
    rw [h3 t x ht, SV.den_congr x (fun i hi => hβ i (h5.1 t x ht i hi))]
  · intro i c hi
    cases hn : getL wr i with
    | some c' => exact hok i c (new hi hn)
    | none =>
      have ho := old hi hn
      exact (h4.1 i c ho).keep (keepB ho hn) (hβ i (by rw [ho]; rfl)) (fun j hj => hβ j (h5.2 i c ho j hj))
  · intro i j ci cj hne hi hj g hwi hbj
    dsimp only at hi hj
    cases hin : getL wr i with
    | some c' =>
      have hi' := new hi hin
      cases hjn : getL wr j with
      | some c'' => exact hsep i j ci cj hne hi' (new hj hjn) g hwi hbj
      | none =>
        have hjo := old hj hjn
        have hbj' : Bl β j cj g := (Bl.congr (hβ j (by rw [hjo]; rfl)) g).2 hbj
        rcases hwr i ci g hi' hwi with hf | ⟨k, c0, hk, hkw, hkwr⟩
        · have := (h4.1 j cj hjo).lt hbj'
          omega
        · have hkj : k ≠ j := by
            rintro rfl
            rw [hjn] at hkw
            simp at hkw
          exact h4.2 k j c0 cj hkj hk hjo g hkwr hbj'
    | none =>
      have hio := old hi hin
      have hwi' : Wr β i ci g := (Wr.congr (hβ i (by rw [hio]; rfl)) g).2 hwi
      cases hjn : getL wr j with
      | some c'' =>
        rcases hbl j cj g (new hj hjn) hbj with hf | ⟨k, c0, hk, hkb, hkr⟩
        · have := (h4.1 i ci hio).lt hwi'.bl
          omega
        · by_cases hik : i = k
          · subst hik
            rw [hio] at hk
            injection hk with hk
            subst hk
            rcases hkr with hkr | hkr
            · rw [hin] at hkr
              simp at hkr
            · exact hkr hwi'
          · exact h4.2 i k ci c0 hik hio hk g hwi' hkb
      | none =>
        have hjo := old hj hjn
        exact h4.2 i j ci cj hne hio hjo g hwi' ((Bl.congr (hβ j (by rw [hjo]; rfl)) g).2 hbj)
  · intro t x ht i hi
    exact isSome_app (h5.1 t x ht i hi)
  · intro i c hi j hj
    dsimp only at hi ⊢
    cases hn : getL wr i with
    | some c' => exact hcl i c (new hi hn) j hj
    | none => exact isSome_app (h5.2 i c (old hi hn) j hj)
  · refine h6.trans' hfr (fun g hg ht => ?_)
    obtain ⟨i, c, hi, _, hw⟩ := hT g ht
    rcases (h4.1 i c hi).mine hw with hm | hm
    · omega
    · exact hm

def upd (β : Nat → BI) (i : Nat) (b : BI) : Nat → BI := fun j => if j = i then b else β j
theorem upd_same (β : Nat → BI) (i : Nat) (b : BI) : upd β i b i = b := by simp [upd]
theorem upd_other (β : Nat → BI) {i j : Nat} (b : BI) (h : j ≠ i) : upd β i b j = β j := by simp [upd, h]
theorem upd_old {i : Nat} {b : BI} (hn : getL s.hp i = none) : ∀ j, (getL s.hp j).isSome = true → β j = upd β i b j := by
  intro j hj
  rw [upd_other]
  rintro rfl
  rw [hn] at hj
  simp at hj
theorem upd_den {i : Nat} {b : BI} {x : SV} (hn : getL s.hp i = none) (hx : ∀ j ∈ x.ids, (getL s.hp j).isSome = true) : x.den (upd β i b) = x.den β :=
  (SV.den_congr x (fun j hj => upd_old hn j (hx j hj))).symm
theorem upd_denL {i : Nat} {b : BI} {l : List SV} (hn : getL s.hp i = none) (hx : ∀ j ∈ idsL l, (getL s.hp j).isSome = true) : denL (upd β i b) l = denL β l :=
  (denL_congr l (fun j hj => upd_old hn j (hx j hj))).symm

/-- A name is made, of a block that is new. -/
theorem SatB.new (h : SatB F nt β s a w) (i : Nat) (c : Chunk) (b : BI) (hn : getL s.hp i = none) (hfr : Fr (fun _ => False) w w') (hok : ChOk F (upd β i b) i w' c)
    (hbl : ∀ g, Bl (upd β i b) i c g → w.heap.size ≤ g) (hcl : ∀ j ∈ c.ids, (getL s.hp j).isSome = true) : SatB F nt (upd β i b) ⟨s.sl, (i, c) :: s.hp⟩ a w' := by
  have one : ∀ {j d}, getL [(i, c)] j = some d → j = i ∧ d = c := by
    intro j d hj
    rw [getL_cons] at hj
    split at hj
    · rename_i e
      injection hj with hj
      exact ⟨e.symm, hj.symm⟩
    · simp [getL] at hj
  refine h.move (β' := upd β i b) (w' := w') (T := fun _ => False) [(i, c)] (upd_old hn) hfr (fun _ ht => ht.elim) ?_ ?_ ?_ ?_ ?_
  · intro j d hj
    obtain ⟨rfl, rfl⟩ := one hj
    exact hok
  · intro j d g hj hg
    obtain ⟨rfl, rfl⟩ := one hj
    exact .inl (hbl g hg.bl)
  · intro j d g hj hg
    obtain ⟨rfl, rfl⟩ := one hj
    exact .inl (hbl g hg)
  · intro j k cj ck hne hj hk
    exact absurd ((one hj).1.trans (one hk).1.symm) hne
  · intro j d hj k hk
    obtain ⟨rfl, rfl⟩ := one hj
    exact isSome_app (hcl k hk)

/-- What lies behind a name is rewritten in place. -/
theorem SatB.rewrite (h : SatB F nt β s a w) (i : Nat) (c c' : Chunk) (hi : getL s.hp i = some c) (hfr : Fr (fun g => Wr β i c g) w w') (hok : ChOk F β i w' c')
    (hwr : ∀ g, Wr β i c' g → Wr β i c g) (hbl : ∀ g, Bl β i c' g → Bl β i c g) (hcl : ∀ j ∈ c'.ids, (getL s.hp j).isSome = true) : SatB F nt β ⟨s.sl, (i, c') :: s.hp⟩ a w' := by
  have one : ∀ {j d}, getL [(i, c')] j = some d → j = i ∧ d = c' := by
    intro j d hj
    rw [getL_cons] at hj
    split at hj
    · rename_i e
      injection hj with hj
      exact ⟨e.symm, hj.symm⟩
    · simp [getL] at hj
  have self : (getL [(i, c')] i).isSome = true := by simp [getL_cons]
  refine h.move (β' := β) (w' := w') (T := fun g => Wr β i c g) [(i, c')] (fun _ _ => rfl) hfr (fun g ht => ⟨i, c, hi, self, ht⟩) ?_ ?_ ?_ ?_ ?_
  · intro j d hj
    obtain ⟨rfl, rfl⟩ := one hj
    exact hok
  · intro j d g hj hg
    obtain ⟨rfl, rfl⟩ := one hj
    exact .inr ⟨j, c, hi, self, hwr g hg⟩
  · intro j d g hj hg
    obtain ⟨rfl, rfl⟩ := one hj
    exact .inr ⟨j, c, hi, hbl g hg, .inl self⟩
  · intro j k cj ck hne hj hk
    exact absurd ((one hj).1.trans (one hk).1.symm) hne
  · intro j d hj k hk
    obtain ⟨rfl, rfl⟩ := one hj
    exact isSome_app (hcl k hk)

theorem SatB.drew (h : SatB F nt β s a w) : SatB F nt β s a w.drew := by
  obtain ⟨h1, h2, h3, h4, h5, h6⟩ := h
  exact ⟨h1, h2, h3, ⟨fun i c hi => (h4.1 i c hi).keep (fun _ _ => rfl) rfl (fun _ _ => rfl), h4.2⟩, h5, h6.drew⟩
theorem Sat.drew (h : Sat F nt s a w) : Sat F nt s a w.drew := by
  obtain ⟨β, h⟩ := h
  exact ⟨β, h.drew⟩

/-- Two states that answer alike. -/
def St.eqv (s s' : St) : Prop := (∀ t, getL s.sl t = getL s'.sl t) ∧ (∀ i, getL s.hp i = getL s'.hp i)
theorem St.eqv.symm {s s' : St} (h : s.eqv s') : s'.eqv s := ⟨fun t => (h.1 t).symm, fun i => (h.2 i).symm⟩
theorem St.eqv.trans {s s' s'' : St} (h : s.eqv s') (k : s'.eqv s'') : s.eqv s'' := ⟨fun t => (h.1 t).trans (k.1 t), fun i => (h.2 i).trans (k.2 i)⟩
theorem St.eqv.refl (s : St) : s.eqv s := ⟨fun _ => rfl, fun _ => rfl⟩
theorem Sat.eqv {s s' : St} (h : Sat F nt s a w) (e : s.eqv s') : Sat F nt s' a w := by
  obtain ⟨β, h1, h2, h3, h4, h5, h6⟩ := h
  refine ⟨β, ⟨h1.1, fun i hi => ⟨by rw [← e.2 i]; exact (h1.2 i hi).1, (h1.2 i hi).2⟩⟩, h2, fun t x ht => h3 t x ((e.1 t).trans ht), ⟨fun i c hi => h4.1 i c ((e.2 i).trans hi), fun i j ci cj hne hi hj => h4.2 i j ci cj hne ((e.2 i).trans hi) ((e.2 j).trans hj)⟩, ⟨?_, ?_⟩, h6⟩
  · intro t x ht i hi
    rw [← e.2 i]
    exact h5.1 t x ((e.1 t).trans ht) i hi
  · intro i c hi j hj
    rw [← e.2 j]
    exact h5.2 i c ((e.2 i).trans hi) j hj
end

/-- What an operation does to the symbolic state. -/
structure SD : Type 1 where
  ins : List (Nat × SV)
  hin : List (Nat × Chunk)
  fr : List Nat
  dst : Option Nat
  v : SV
  wr : List (Nat × Chunk)
def SD.pre (d : SD) (s : St) : Prop := (∀ p ∈ d.ins, getL s.sl p.1 = some p.2) ∧ (∀ p ∈ d.hin, getL s.hp p.1 = some p.2) ∧ (∀ i ∈ d.fr, getL s.hp i = none)
def SD.app (d : SD) (s : St) : St := ⟨(match d.dst with | some t => (t, d.v) :: s.sl | none => s.sl), d.wr ++ s.hp⟩
def NoExit (_ : Exit) (_ : Act) (_ : World) : Prop := False
/-- In a state that has what it looks at the operation does so. -/
def StepOk (P : Program) (nt : Nat) (o : Oper) (d : SD) : Prop :=
  d.dst = o.dst ∧ ∀ F s a w, Sat F nt s a w → d.pre s → o.wp P a w (fun a' w' => Sat F nt (d.app s) a' w') NoExit
/-- The operation leads from one state to another one. -/
structure OpR (P : Program) (nt : Nat) (s : St) (o : Oper) (d : SD) (s' : St) : Prop where
  ok : StepOk P nt o d
  pre : d.pre s
  out : s' = d.app s

/-- An operand's value. -/
def evS (sl : List (Nat × SV)) : Operand → Option SV
  | .tmp t => getL sl t
  | .const v => some (.v v)
  | .func f => some (.fn f [])
  | .global _ => none
def insOf : Operand → SV → List (Nat × SV)
  | .tmp t, X => [(t, X)]
  | _, _ => []
/-- What an operand that is no slot is. -/
def evC : Operand → SV → Prop
  | .tmp _, _ => True
  | .const v, X => X = .v v
  | .func f, X => X = .fn f []
  | .global _, _ => False
theorem evC_of {sl : List (Nat × SV)} {x : Operand} {X : SV} (h : evS sl x = some X) : evC x X := by
  cases x <;> simp [evS, evC] at h ⊢
  · exact h.symm
  · exact h.symm
theorem insOf_pre {s : St} {x : Operand} {X : SV} (h : evS s.sl x = some X) : ∀ p ∈ insOf x X, getL s.sl p.1 = some p.2 := by
  cases x <;> simp [insOf] ; exact h
theorem eval_of {β : Nat → BI} {a : Act} {x : Operand} {X : SV} (hc : evC x X) (h : ∀ p ∈ insOf x X, a.tmps[p.1]? = some (p.2.den β)) : a.eval x = X.den β := by
  cases x with
  | tmp t =>
    have := h (t, X) (by simp [insOf])
    simp only [Act.eval, Array.getD_eq_getD_getElem?, this, Option.getD_some]
  | const v =>
    simp [evC] at hc
    subst hc
    rfl
  | func f =>
    simp [evC] at hc
    subst hc
    rfl
  | global g => exact hc.elim
theorem ids_of {s : St} {x : Operand} {X : SV} (hcl : Closed s) (hc : evC x X) (h : ∀ p ∈ insOf x X, getL s.sl p.1 = some p.2) : ∀ i ∈ X.ids, (getL s.hp i).isSome = true := by
  cases x with
  | tmp t => exact hcl.1 t X (h (t, X) (by simp [insOf]))
  | const v =>
    simp [evC] at hc
    subst hc
    simp [SV.ids]
  | func f =>
    simp [evC] at hc
    subst hc
    simp [SV.ids, idsL]
  | global g => exact hc.elim

section
variable {P : Program} {nt : Nat} {o : Oper} {d : SD}

theorem Oper.wp_ok {o : Oper} {a : Act} {w w' : World} {K : Act → World → Prop} {Q : Exit → Act → World → Prop} {v : Value} (h : (execOp a.eval o).run P w = .ok (.value v) w') (hk : K (a.put o.dst v) w') : o.wp P a w K Q := by
  unfold Oper.wp
  rw [h]
  exact hk
theorem Oper.wp_skip {o : Oper} {a : Act} {w w' : World} {K : Act → World → Prop} {Q : Exit → Act → World → Prop} (h : (execOp a.eval o).run P w = .ok .skip w') (hk : K (a.put o.dst undef) w') : o.wp P a w K Q := by
  unfold Oper.wp
  rw [h]
  exact hk

/-- An operation that only looks: its value in every frame and world that have what it looks at. -/
theorem StepOk.quiet {ins : List (Nat × SV)} {hin : List (Nat × Chunk)} {t : Nat} {X : SV} (hd : o.dst = some t) (ht : t < nt)
    (hids : ∀ s : St, Closed s → (∀ p ∈ ins, getL s.sl p.1 = some p.2) → (∀ p ∈ hin, getL s.hp p.1 = some p.2) → ∀ i ∈ X.ids, (getL s.hp i).isSome = true)
    (h : ∀ (F : Fm) (β : Nat → BI) (a : Act) (w : World), (∀ p ∈ ins, a.tmps[p.1]? = some (p.2.den β)) → (∀ p ∈ hin, ChOk F β p.1 w p.2) → (execOp a.eval o).run P w = .ok (.value (X.den β)) w) :
    StepOk P nt o ⟨ins, hin, [], some t, X, []⟩ := by
  refine ⟨hd.symm, fun F s a w hs hp => ?_⟩
  obtain ⟨β, hs⟩ := hs
  obtain ⟨p1, p2, _⟩ := hp
  refine Oper.wp_ok (h F β a w (fun p hp => hs.2.2.1 _ _ (p1 p hp)) (fun p hp => hs.2.2.2.1.1 _ _ (p2 p hp))) ?_
  rw [hd]
  exact ⟨β, hs.put ht (hids s hs.2.2.2.2.1 p1 p2)⟩
end
end Go.Proofs.Ytiboffhdabeiiaa
