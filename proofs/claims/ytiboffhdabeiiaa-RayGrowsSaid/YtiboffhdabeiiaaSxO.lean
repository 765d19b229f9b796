/-
  Arguments that came in, whatever their type: numbers, structs, rows of these. Plain lemmas over any program.
-/
import Derived.Test.YtiboffhdabeiiaaSxR
import Derived.SizedLaws
import Derived.Deep.Slices
import Derived.ChangeShapes
import Derived.OpenShut
namespace Go.Proofs.Ytiboffhdabeiiaa
open Go Go.RowKit Go.ChangeShapes Go.WideShapes Go.Deep

/-- Whatever reads at the type t has cells that are so. -/
def Reads (P : Program) (W : World) (t : TypeId) (R : List Value → Prop) : Prop :=
  ∀ (H : Type) (enc : TypeId × Value → H) (base : Nat) (spare : Nat → Bool) (held : Bool) (fuel : Nat) (cs : List Value) (d : DataW H) (ps : List MemPlace),
    (∀ n ∈ d.weights P t, n ≤ reachBytes) → DataW.trod enc P W base spare held fuel t cs = some (d, ps) → R cs
section
variable {P : Program} {W : World} {t e : TypeId}
theorem Reads.mono {R R' : List Value → Prop} (h : Reads P W t R) (hr : ∀ cs, R cs → R' cs) : Reads P W t R' := fun H enc base spare held fuel cs d ps hw h1 => hr cs (h H enc base spare held fuel cs d ps hw h1)
theorem reads_int {k : IntKind} (ht : P.underlying t = some (.int k)) : Reads P W t fun cs => ∃ n : Int, cs = [.int k n] ∧ k.min ≤ n ∧ n ≤ k.max := fun H enc base spare held fuel cs d ps hw h => by
  obtain ⟨n, h1, _, h2⟩ := DataW.trod_int ht h
  simp only [Lit.wf, Bool.and_eq_true, decide_eq_true_eq] at h2
  exact ⟨n, h1, h2⟩
theorem reads_bool (ht : P.underlying t = some .bool) : Reads P W t fun cs => ∃ b : Bool, cs = [.bool b] := fun H enc base spare held fuel cs d ps hw h => by
  obtain ⟨n, h1, _⟩ := DataW.trod_bool ht h
  exact ⟨n, h1⟩
theorem listOf {α : Type} {Q : Nat → α → Prop} : ∀ n, (∀ i, i < n → ∃ a, Q i a) → ∃ l : List α, l.length = n ∧ ∀ i a, l[i]? = some a → Q i a
  | 0, _ => ⟨[], rfl, by simp⟩
  | n + 1, h => by
    obtain ⟨l, h1, h2⟩ := listOf n (fun i hi => h i (by omega))
    obtain ⟨a, ha⟩ := h n (by omega)
    refine ⟨l ++ [a], by simp [h1], fun i b hb => ?_⟩
    rcases Nat.lt_or_ge i l.length with hi | hi
    · rw [List.getElem?_append_left hi] at hb
      exact h2 i b hb
    · rw [List.getElem?_append_right hi] at hb
      have : i - l.length = 0 := by
        have := (List.getElem?_eq_some_iff.1 hb).1
        simp at this
        omega
      rw [this] at hb
      simp at hb
      subst hb
      rw [show i = n by omega]
      exact ha
theorem flat_inv {α : Type} (E : Enc α) {l : List α} {j : Nat} {u : Value} (h : (flat E l)[j]? = some u) : ∃ a, l[j / E.size]? = some a ∧ (E.enc a)[j % E.size]? = some u := by
  have hj := (List.getElem?_eq_some_iff.1 h).1
  rw [flat_len] at hj
  have hk : j / E.size < l.length := (Nat.div_lt_iff_lt_mul E.pos).2 hj
  have hr : j % E.size < (E.enc l[j / E.size]).length := by rw [E.len]; exact Nat.mod_lt _ E.pos
  refine ⟨l[j / E.size], List.getElem?_eq_getElem hk, ?_⟩
  have h1 := flat_at E (List.getElem?_eq_getElem hk) (List.getElem?_eq_getElem hr)
  rw [show j / E.size * E.size + j % E.size = j by rw [Nat.mul_comm]; exact Nat.div_add_mod j E.size, h] at h1
  rw [List.getElem?_eq_getElem hr]
  exact h1.symm
theorem weightsAll_in {H : Type} : ∀ {l : List (DataW H)} {d : DataW H}, d ∈ l → ∀ n ∈ d.weights P e, n ∈ DataW.weightsAll P e l
  | x :: l, d, h, n, hn => by
    simp only [DataW.weightsAll, List.mem_append]
    rcases List.mem_cons.1 h with rfl | h
    · exact .inl hn
    · exact .inr (weightsAll_in h n hn)
theorem reads_row {α : Type} (E : Enc α) {ok : α → Prop} {by_ : Nat} (ht : P.underlying t = some (.slice e)) (hc : P.cellsOf e = E.size) (hb : P.bytesOf e = by_) (hel : Reads P W e fun cs => ∃ a, cs = E.enc a ∧ ok a) :
    Reads P W t fun cs => ∃ (A : Option Addr) (cap : Nat) (l : List α), cs = [.slice A l.length cap] ∧ Rd W (fun _ => True) E.size A l.length (flat E l) ∧ (∀ a ∈ l, ok a) ∧ l.length * by_ ≤ reachBytes ∧ l.length ≤ cap ∧ cap ≤ maxLen := fun H enc base spare held fuel cs d ps hw h => by
  rcases open_slice ht h with ⟨rfl, _⟩ | ⟨a, len, cap, m, n, D, Pl, rfl, _, hl, hmx, hmm, hx, hi⟩
  · exact ⟨none, 0, [], rfl, ⟨by simp [flat], fun h => by simp at h⟩, by simp, by simp, by simp, by simp⟩
  · simp only [Prod.mk.injEq] at hx
    obtain ⟨rfl, _⟩ := hx
    have hlm : len ≤ m := by
      rw [hmm]
      split <;> omega
    have hw1 : (len + (m - len)) * by_ ≤ reachBytes := by
      refine hw _ ?_
      simp only [DataW.weights, ht, List.length_map, List.length_range, hb]
      exact List.mem_cons_self ..
    rw [hc] at hi
    obtain ⟨l, h1, h2⟩ := listOf (α := α) (Q := fun i x => W.cells? base (a.add (i * E.size)) E.size = some (E.enc x) ∧ ok x) len (fun i hil => by
      obtain ⟨cs', k1, k2⟩ := hi i (by omega)
      obtain ⟨x, rfl, k3⟩ := hel H enc base spare held n cs' (D i) (Pl i) (fun q hq => hw q (by
        simp only [DataW.weights, ht]
        exact List.mem_cons_of_mem _ (List.mem_append_left _ (weightsAll_in (List.mem_map.2 ⟨i, List.mem_range.2 hil, rfl⟩) q hq)))) k2
      exact ⟨x, k1, k3⟩)
    refine ⟨some a, cap, l, by rw [h1], ⟨flat_len E l, fun h0 => ?_⟩, fun x hx => ?_, ?_, by omega, hmx⟩
    · have hcell : ∀ (k : Nat) x, l[k]? = some x → ∀ (r : Nat) u, (E.enc x)[r]? = some u → W.cell? (a.add (k * E.size + r)) = some u := by
        intro k x hk r u hu
        obtain ⟨_, _, k3⟩ := World.cells?_some (h2 k x hk).1
        have hr : r < E.size := by have := (List.getElem?_eq_some_iff.1 hu).1; rwa [E.len] at this
        have := k3 r hr
        rw [add_of_add, hu] at this
        exact this
      have hsp : a = ⟨a.block, a.off, none⟩ := by
        have hp : 0 < (E.enc l[0]).length := by rw [E.len]; exact E.pos
        have := hcell 0 l[0] (List.getElem?_eq_getElem h0) 0 _ (List.getElem?_eq_getElem hp)
        rw [show 0 * E.size + 0 = 0 by omega, add_zero] at this
        exact spot_of_cell this
      refine ⟨a.block, a.off, by rw [← hsp], trivial, fun j u hu => ?_⟩
      obtain ⟨x, k1, k2⟩ := flat_inv E hu
      have := hcell _ x k1 _ u k2
      rw [show j / E.size * E.size + j % E.size = j by rw [Nat.mul_comm]; exact Nat.div_add_mod j E.size, hsp, add_lit] at this
      exact this
    · obtain ⟨i, hi2⟩ := List.mem_iff_getElem?.1 hx
      exact (h2 i x hi2).2
    · rw [h1]
      exact Nat.le_trans (Nat.mul_le_mul_right _ (by omega)) hw1
theorem weightsEach_in {H : Type} : ∀ {ts : List TypeId} {ds : List (DataW H)} {j : Nat} {t : TypeId} {d : DataW H}, ts[j]? = some t → ds[j]? = some d → ∀ n ∈ d.weights P t, n ∈ DataW.weightsEach P ts ds := DataW.weights_mem_each
/-- A struct: each field's cells. -/
theorem reads_struct {fs : Array Field} {R : Nat → List Value → Prop} (ht : P.underlying t = some (.struct fs)) (hf : ∀ (i : Nat) (f : Field), fs[i]? = some f → Reads P W f.type (R i)) :
    Reads P W t fun cs => cs.length = P.cellsOf t ∧ ∀ (i : Nat) (f : Field), fs[i]? = some f → R i ((cs.drop f.offset).take (P.cellsOf f.type)) := fun H enc base spare held fuel cs d ps hw h => by
  obtain ⟨xs, n, _, hx, hl, hxl, hg⟩ := DataW.trod_struct ht h
  simp only [Prod.mk.injEq] at hx
  obtain ⟨rfl, _⟩ := hx
  refine ⟨hl, fun i f hi => ?_⟩
  have hil := (Array.getElem?_eq_some_iff.1 hi).1
  have h1 := hg i f hi
  have h2 : xs[i]? = some (xs[i]'(by omega)) := List.getElem?_eq_getElem (by omega)
  rw [h2] at h1
  refine hf i f hi H enc base spare held n _ (xs[i]'(by omega)).1 (xs[i]'(by omega)).2 (fun q hq => hw q ?_) h1
  simp only [DataW.weights, ht]
  refine weightsEach_in (j := i) (t := f.type) (d := (xs[i]'(by omega)).1) ?_ ?_ q hq
  · rw [List.getElem?_map, Array.getElem?_toList, hi]
    rfl
  · rw [List.getElem?_map, h2]
    rfl
end
def i64R (n : Int) : Prop := -9223372036854775808 ≤ n ∧ n ≤ 9223372036854775807
def arcR (a : PArc) : Prop := i64R a.fr ∧ i64R a.dt ∧ i64R a.lo ∧ i64R a.ca ∧ i64R a.co
section
variable {P : Program} {W : World} {t e : TypeId}
theorem reads_i64 (ht : P.underlying t = some (.int .i64)) : Reads P W t fun cs => ∃ n : Int, cs = [.int .i64 n] ∧ i64R n := (reads_int ht).mono fun _cs ⟨n, h1, h2, h3⟩ => ⟨n, h1, h2, h3⟩
theorem reads_ints (ht : P.underlying t = some (.slice e)) (he : P.underlying e = some (.int .i64)) (hc : P.cellsOf e = 1) (hb : P.bytesOf e = 8) :
    Reads P W t fun cs => ∃ (A : Option Addr) (cap : Nat) (l : List Int), cs = [.slice A l.length cap] ∧ Rd W (fun _ => True) eInt.size A l.length (flat eInt l) ∧ (∀ a ∈ l, i64R a) ∧ l.length * 8 ≤ reachBytes ∧ l.length ≤ cap ∧ cap ≤ maxLen :=
  reads_row eInt ht hc hb ((reads_int he).mono fun _cs ⟨n, h1, h2, h3⟩ => ⟨n, h1, h2, h3⟩)
theorem reads_byts (ht : P.underlying t = some (.slice e)) (he : P.underlying e = some (.int .u8)) (hc : P.cellsOf e = 1) (hb : P.bytesOf e = 1) :
    Reads P W t fun cs => ∃ (A : Option Addr) (cap : Nat) (l : List Nat), cs = [.slice A l.length cap] ∧ Rd W (fun _ => True) eByt.size A l.length (flat eByt l) ∧ (∀ a ∈ l, a < 256) ∧ l.length * 1 ≤ reachBytes ∧ l.length ≤ cap ∧ cap ≤ maxLen :=
  reads_row eByt ht hc hb ((reads_int he).mono fun cs ⟨n, h1, h2, h3⟩ => by
    simp [IntKind.min, IntKind.max, IntKind.signed, IntKind.bits] at h2 h3
    refine ⟨n.toNat, ?_, by omega⟩
    rw [h1]
    simp [eByt]
    omega)
theorem reads_bools (ht : P.underlying t = some (.slice e)) (he : P.underlying e = some .bool) (hc : P.cellsOf e = 1) (hb : P.bytesOf e = 1) :
    Reads P W t fun cs => ∃ (A : Option Addr) (cap : Nat) (l : List Bool), cs = [.slice A l.length cap] ∧ Rd W (fun _ => True) eBool.size A l.length (flat eBool l) ∧ (∀ a ∈ l, True) ∧ l.length * 1 ≤ reachBytes ∧ l.length ≤ cap ∧ cap ≤ maxLen :=
  reads_row eBool ht hc hb ((reads_bool he).mono fun _cs ⟨n, h1⟩ => ⟨n, h1, trivial⟩)
/-- What a struct's fields are: offset, cells, what they read as. -/
theorem reads_arc {f0 f1 f2 f3 f4 : Field} (ht : P.underlying t = some (.struct #[f0, f1, f2, f3, f4])) (hn : P.cellsOf t = 5)
    (h0 : P.underlying f0.type = some (.int .i64) ∧ f0.offset = 0 ∧ P.cellsOf f0.type = 1) (h1 : P.underlying f1.type = some (.int .i64) ∧ f1.offset = 1 ∧ P.cellsOf f1.type = 1) (h2 : P.underlying f2.type = some (.int .i64) ∧ f2.offset = 2 ∧ P.cellsOf f2.type = 1)
    (h3 : P.underlying f3.type = some (.int .i64) ∧ f3.offset = 3 ∧ P.cellsOf f3.type = 1) (h4 : P.underlying f4.type = some (.int .i64) ∧ f4.offset = 4 ∧ P.cellsOf f4.type = 1) :
    Reads P W t fun cs => ∃ a : PArc, cs = eArc.enc a ∧ arcR a :=
  (reads_struct (R := fun _ cs => ∃ n : Int, cs = [.int .i64 n] ∧ i64R n) ht (fun i f hf => by
    match i, hf with
    | 0, hf => simp at hf; subst hf; exact reads_i64 h0.1
    | 1, hf => simp at hf; subst hf; exact reads_i64 h1.1
    | 2, hf => simp at hf; subst hf; exact reads_i64 h2.1
    | 3, hf => simp at hf; subst hf; exact reads_i64 h3.1
    | 4, hf => simp at hf; subst hf; exact reads_i64 h4.1)).mono fun cs ⟨hl, hh⟩ => by
    rw [hn] at hl
    match cs, hl with
    | [c0, c1, c2, c3, c4], _ =>
      obtain ⟨n0, e0, r0⟩ := hh 0 f0 rfl
      obtain ⟨n1, e1, r1⟩ := hh 1 f1 rfl
      obtain ⟨n2, e2, r2⟩ := hh 2 f2 rfl
      obtain ⟨n3, e3, r3⟩ := hh 3 f3 rfl
      obtain ⟨n4, e4, r4⟩ := hh 4 f4 rfl
      rw [h0.2.1, h0.2.2] at e0
      rw [h1.2.1, h1.2.2] at e1
      rw [h2.2.1, h2.2.2] at e2
      rw [h3.2.1, h3.2.2] at e3
      rw [h4.2.1, h4.2.2] at e4
      simp at e0 e1 e2 e3 e4
      subst e0 e1 e2 e3 e4
      exact ⟨⟨n0, n1, n2, n3, n4⟩, rfl, r0, r1, r2, r3, r4⟩
theorem reads_arcs (ht : P.underlying t = some (.slice e)) (hc : P.cellsOf e = 5) (hb : P.bytesOf e = 40) (he : Reads P W e fun cs => ∃ a : PArc, cs = eArc.enc a ∧ arcR a) :
    Reads P W t fun cs => ∃ (A : Option Addr) (cap : Nat) (l : List PArc), cs = [.slice A l.length cap] ∧ Rd W (fun _ => True) eArc.size A l.length (flat eArc l) ∧ (∀ a ∈ l, arcR a) ∧ l.length * 40 ≤ reachBytes ∧ l.length ≤ cap ∧ cap ≤ maxLen :=
  reads_row eArc ht hc hb he
/-- An instance's cells. -/
def instR (W : World) (cs : List Value) : Prop := ∃ (A0 : Option Addr) (c0 : Nat) (s : List Int) (A1 : Option Addr) (c1 : Nat) (l : List PArc), cs = [.slice A0 s.length c0, .slice A1 l.length c1] ∧
    Rd W (fun _ => True) eInt.size A0 s.length (flat eInt s) ∧ (∀ a ∈ s, i64R a) ∧ s.length * 8 ≤ reachBytes ∧ s.length ≤ c0 ∧ Rd W (fun _ => True) eArc.size A1 l.length (flat eArc l) ∧ (∀ a ∈ l, arcR a) ∧ l.length * 40 ≤ reachBytes ∧ l.length ≤ c1
theorem reads_inst {f0 f1 : Field} (ht : P.underlying t = some (.struct #[f0, f1])) (hn : P.cellsOf t = 2) (o0 : f0.offset = 0 ∧ P.cellsOf f0.type = 1) (o1 : f1.offset = 1 ∧ P.cellsOf f1.type = 1)
    (h0 : Reads P W f0.type fun cs => ∃ (A : Option Addr) (cap : Nat) (l : List Int), cs = [.slice A l.length cap] ∧ Rd W (fun _ => True) eInt.size A l.length (flat eInt l) ∧ (∀ a ∈ l, i64R a) ∧ l.length * 8 ≤ reachBytes ∧ l.length ≤ cap ∧ cap ≤ maxLen)
    (h1 : Reads P W f1.type fun cs => ∃ (A : Option Addr) (cap : Nat) (l : List PArc), cs = [.slice A l.length cap] ∧ Rd W (fun _ => True) eArc.size A l.length (flat eArc l) ∧ (∀ a ∈ l, arcR a) ∧ l.length * 40 ≤ reachBytes ∧ l.length ≤ cap ∧ cap ≤ maxLen) :
    Reads P W t (instR W) := by
  let R : Nat → List Value → Prop := fun i => match i with
    | 0 => fun cs => ∃ (A : Option Addr) (cap : Nat) (l : List Int), cs = [.slice A l.length cap] ∧ Rd W (fun _ => True) eInt.size A l.length (flat eInt l) ∧ (∀ a ∈ l, i64R a) ∧ l.length * 8 ≤ reachBytes ∧ l.length ≤ cap ∧ cap ≤ maxLen
    | _ => fun cs => ∃ (A : Option Addr) (cap : Nat) (l : List PArc), cs = [.slice A l.length cap] ∧ Rd W (fun _ => True) eArc.size A l.length (flat eArc l) ∧ (∀ a ∈ l, arcR a) ∧ l.length * 40 ≤ reachBytes ∧ l.length ≤ cap ∧ cap ≤ maxLen
  refine (reads_struct (R := R) ht (fun i f hf => by
    match i, hf with
    | 0, hf => simp at hf; subst hf; exact h0
    | 1, hf => simp at hf; subst hf; exact h1)).mono fun cs ⟨hl, hh⟩ => ?_
  rw [hn] at hl
  match cs, hl with
  | [c0, c1], _ =>
    obtain ⟨A0, p0, s, e0, r0, k0, z0, y0, _⟩ := hh 0 f0 rfl
    obtain ⟨A1, p1, l, e1, r1, k1, z1, y1, _⟩ := hh 1 f1 rfl
    rw [o0.1, o0.2] at e0
    rw [o1.1, o1.2] at e1
    simp at e0 e1
    subst e0 e1
    exact ⟨A0, p0, s, A1, p1, l, rfl, r0, k0, z0, y0, r1, k1, z1, y1⟩
end
end Go.Proofs.Ytiboffhdabeiiaa
