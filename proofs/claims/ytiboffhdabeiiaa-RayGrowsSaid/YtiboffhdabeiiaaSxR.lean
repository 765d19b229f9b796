/-
  From what a function does by the symbolic steps to what a law asks of it: rows that came in. Plain lemmas over any program.
-/
import Derived.Test.YtiboffhdabeiiaaSxP
import Derived.Below
namespace Go.Proofs.Ytiboffhdabeiiaa
open Go Go.RowKit
def biOf (A : Option Addr) (n cap : Nat) : BI := match A, n with
  | some a, _ + 1 => ⟨false, a.block, a.off, cap, none, []⟩
  | A, _ => ⟨true, 0, 0, cap, A, []⟩
def env (bs : List (Nat × BI)) (i : Nat) : BI := (getL bs i).getD noBI
def isRo : Chunk → Bool
  | .ro _ _ => true
  | _ => false
theorem biOf_dn {w : World} {S : Nat → Prop} {size n cap : Nat} {A : Option Addr} {xs : List Value} (h : Rd w S size A n xs) : (biOf A n cap).dn = A := by
  cases n with
  | zero => cases A <;> rfl
  | succ n =>
    obtain ⟨B, O, rfl, _⟩ := h.2 (by omega)
    rfl
theorem biOf_cap (A : Option Addr) (n cap : Nat) : (biOf A n cap).cap = cap := by
  unfold biOf
  split <;> rfl
theorem biOf_rd {w : World} {S : Nat → Prop} {cap : Nat} {A : Option Addr} {α : Type} {E : Enc α} {l : List α} {β : Nat → BI} {id : Nat} (h : Rd w S E.size A l.length (flat E l)) (hcap : l.length ≤ cap) (hb : β id = biOf A l.length cap) : RdOk β id w E l := by
  intro hl
  have hp := List.length_pos_iff.2 hl
  obtain ⟨B, O, rfl, _, hc⟩ := h.2 hp
  have : biOf (some ⟨B, O, none⟩) l.length cap = ⟨false, B, O, cap, none, []⟩ := by
    rw [show l.length = (l.length - 1) + 1 by omega]
    rfl
  rw [hb, this]
  exact ⟨⟨rfl, hcap⟩, hc⟩
/-- An argument: where it lies, and what it reads. -/
structure RowIn (w : World) (bs : List (Nat × BI)) (i : Nat) (c : Chunk) : Prop where
  h : ∀ F, ChOk F (env bs) i w c
theorem RowIn.mk' {w : World} {S : Nat → Prop} {cap : Nat} {A : Option Addr} {α : Type} {E : Enc α} {l : List α} {bs : List (Nat × BI)} {id : Nat} (h : Rd w S E.size A l.length (flat E l)) (hcap : l.length ≤ cap) (hb : getL bs id = some (biOf A l.length cap)) : RowIn w bs id (.ro E l) :=
  ⟨fun F => biOf_rd (cap := cap) h hcap (by unfold env; rw [hb]; rfl)⟩
theorem Spec.law {P : Program} {f : FuncId} {args : List SV} {pre : List (Nat × Chunk)} (h : Spec P f args pre (.v (.bool true)) []) (bs : List (Nat × BI)) {w : World} {vs : Array Value} (hv : (denL (env bs) args).toArray = vs)
    (hro : (pre.all fun p => isRo p.2) = true) (hok : ∀ p ∈ pre, RowIn w bs p.1 p.2) : Calls P f vs w fun e w' => e = .returned (.bool true) ∧ Below w.heap.size w w' := by
  have noW : ∀ i c, getL pre i = some c → ∀ g, ¬ Wr (env bs) i c g := fun i c hi g hg => by
    have := List.all_eq_true.1 hro _ (getL_mem hi)
    cases c <;> simp [isRo] at this
    exact hg.elim
  have h1 := h.2 (env bs) w ⟨fun i c hi => (hok _ (getL_mem hi)).h _, fun i j ci cj hne hi hj g hw hb => noW i ci hi g hw⟩
  rw [hv] at h1
  refine h1.mono ?_
  rintro e w' ⟨β', _, rfl, _, hfr⟩
  exact ⟨rfl, hfr.os, hfr.tape, hfr.output, hfr.size, fun k hk => hfr.block k hk (fun ⟨i, c, hi, hg⟩ => noW i c hi k hg)⟩
theorem flat_bytl (l : List Nat) : flat eByt l = bytl l := by
  induction l with
  | nil => rfl
  | cons x l ih =>
    have : flat eByt (x :: l) = eByt.enc x ++ flat eByt l := by simp [flat]
    rw [this, ih]
    rfl
theorem flat_intl (l : List Int) : flat eInt l = intl l := by
  induction l with
  | nil => rfl
  | cons x l ih =>
    have : flat eInt (x :: l) = eInt.enc x ++ flat eInt l := by simp [flat]
    rw [this, ih]
    rfl
/-- Bytes that came in. -/
theorem IsRow.bytS {w : World} {a : Option Addr} {len cap : Nat} {zs : List Int} (h : IsRow .u8 w a len cap zs) : ∃ l : List Nat, (∀ b ∈ l, b < 256) ∧ l.length = len ∧ len ≤ 9223372036854775807 ∧ Rd w (fun _ => True) eByt.size a l.length (flat eByt l) := by
  obtain ⟨l, h1, h2, h3⟩ := h.bytes
  have hl : l.length = len := by have := h1.1; rw [bytl_len] at this; omega
  refine ⟨l, h2, hl, h3, ?_⟩
  rw [flat_bytl, hl]
  exact h1
theorem IsRow.intS {w : World} {a : Option Addr} {len cap : Nat} {zs : List Int} (h : IsRow .i64 w a len cap zs) : ∃ l : List Int, (∀ b ∈ l, -9223372036854775808 ≤ b ∧ b ≤ 9223372036854775807) ∧ l.length = len ∧ len ≤ 9223372036854775807 ∧ Rd w (fun _ => True) eInt.size a l.length (flat eInt l) := by
  obtain ⟨l, h1, h2, h3⟩ := h.ints
  have hl : l.length = len := by have := h1.1; rw [intl_len] at this; omega
  refine ⟨l, h2, hl, h3, ?_⟩
  rw [flat_intl, hl]
  exact h1
theorem getL_filter {α : Type _} (id : Nat) (l : List (Nat × α)) (i : Nat) : getL (l.filter fun p => !Nat.beq p.1 id) i = if i = id then none else getL l i := by
  induction l with
  | nil => simp [getL]
  | cons p l ih =>
    obtain ⟨k, v⟩ := p
    rw [List.filter_cons]
    by_cases hk : k = id
    · subst hk
      simp only [Nat.beq_refl, Bool.not_true, Bool.false_eq_true, if_false]
      rw [ih, getL_cons]
      by_cases hi : i = k
      · simp [hi]
      · simp [hi, Ne.symm hi]
    · have : (!Nat.beq k id) = true := by
        rw [Bool.not_eq_true', Bool.eq_false_iff]
        exact fun h => hk (Nat.eq_of_beq_eq_true h)
      simp only [this, if_true]
      rw [getL_cons, getL_cons, ih]
      by_cases hi : k = i
      · subst hi
        simp [hk]
      · simp [hi]
def idsOk (id : Nat) (pre : List (Nat × Chunk)) : Bool := pre.all fun p => p.2.ids.all fun j => !Nat.beq j id
/-- An argument that is nil. -/
theorem Spec.nil {P : Program} {f : FuncId} {α : Type} {E : Enc α} {args args' : List SV} {pre pre' post : List (Nat × Chunk)} {res : SV} (id : Nat) (h : Spec P f args pre res post) (hn : getL pre id = some (.ro E []) := by rfl) (hp : (pre.filter fun p => !Nat.beq p.1 id) = pre' := by rfl) (hid : idsOk id pre' = true := by rfl)
    (ha : ∀ β, denL (upd β id noBI) args = denL β args' := by intro β; rfl) : Spec P f args' pre' res post := by
  subst hp
  refine ⟨h.1, fun β w hok => ?_⟩
  have at_ : ∀ {i c}, getL (pre.filter fun p => !Nat.beq p.1 id) i = some c → i ≠ id ∧ getL pre i = some c := fun {i c} hi => by
    rw [getL_filter] at hi
    split at hi
    · cases hi
    · exact ⟨by assumption, hi⟩
  have to_ : ∀ {i c}, i ≠ id → getL pre i = some c → getL (pre.filter fun p => !Nat.beq p.1 id) i = some c := fun {i c} hne hi => by rw [getL_filter, if_neg hne]; exact hi
  have atid : ∀ {c}, getL pre id = some c → c = .ro E [] := fun {c} hc => by rw [hn] at hc; injection hc with hc; exact hc.symm
  have hw : ∀ {g}, wrS (upd β id noBI) pre g → wrS β (pre.filter fun p => !Nat.beq p.1 id) g := fun {g} ⟨i, c, hi, hg⟩ => by
    by_cases hne : i = id
    · subst hne
      rw [atid hi] at hg
      exact hg.elim
    · exact ⟨i, c, to_ hne hi, (Wr.congr (upd_other β noBI hne) g).1 hg⟩
  have hw' : ∀ {g}, wrS β (pre.filter fun p => !Nat.beq p.1 id) g → wrS (upd β id noBI) pre g := fun {g} ⟨i, c, hi, hg⟩ => by
    obtain ⟨hne, hi'⟩ := at_ hi
    exact ⟨i, c, hi', (Wr.congr (upd_other β noBI hne) g).2 hg⟩
  have h1 := h.2 (upd β id noBI) w ⟨fun i c hc => ?_, fun i j ci cj hne hci hcj g hg hb => ?_⟩
  · rw [ha β] at h1
    refine h1.mono ?_
    rintro e w' ⟨β', hag, rfl, hok', hfr⟩
    refine ⟨β', fun i hi' => ?_, rfl, ⟨fun i c hc => (hok'.1 i c hc).frame (fun g hg => ?_), hok'.2⟩, hfr.mono fun g _ hg => hw hg⟩
    · obtain ⟨c, hc⟩ := Option.isSome_iff_exists.1 hi'
      obtain ⟨hne, hc'⟩ := at_ hc
      rw [hag i (by rw [hc']; rfl), upd_other _ _ hne]
    · rcases (hok'.1 i c hc).mine hg with h6 | h6
      · exact .inl h6
      · exact .inr (hw h6)
  · by_cases hne : i = id
    · subst hne
      rw [atid hc]
      intro hl
      exact absurd rfl hl
    · have hc' := to_ hne hc
      have hids : ∀ j ∈ c.ids, j ≠ id := fun j hj e => by
        have := List.all_eq_true.1 (List.all_eq_true.1 hid _ (getL_mem hc')) j hj
        simp [e] at this
      refine ((hok.1 i c hc').keep (w' := w) (β' := upd β id noBI) (fun _ _ => rfl) (upd_other _ _ hne).symm (fun j hj => (upd_other _ _ (hids j hj)).symm)).frame fun g hg => ?_
      exact .inr ⟨i, c, hc, hg⟩
  · have ni : i ≠ id := by rintro rfl; rw [atid hci] at hg; exact hg.elim
    have nj : j ≠ id := by rintro rfl; rw [atid hcj] at hb; exact hb.1 rfl
    exact hok.2 i j ci cj hne (to_ ni hci) (to_ nj hcj) g ((Wr.congr (upd_other β noBI ni) g).1 hg) ((Bl.congr (upd_other β noBI nj) g).1 hb)
end Go.Proofs.Ytiboffhdabeiiaa
