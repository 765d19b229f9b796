/-
  Memory words, more: a slice that reads as a list, whatever its address; a list of lists; a map of ints. Plain lemmas, no program in sight.
-/
import Derived.Test.YtiboffhdabeiiaaLib
import Derived.Maps.AppendAt
import Derived.Maps.OwnOps
import Derived.Maps.OwnSet
import Derived.OwnWalk
namespace Go.Proofs.Ytiboffhdabeiiaa
open Go.RowKit

theorem block_of_add (a : Addr) (n : Nat) : (a.add n).block = a.block := by unfold Addr.add; split <;> rfl
theorem add_of_add (a : Addr) (i j : Nat) : (a.add i).add j = a.add (i + j) := by
  unfold Addr.add
  by_cases hi : i = 0 <;> by_cases hj : j = 0 <;> simp [hi, hj, Nat.add_assoc]
theorem add_zero (a : Addr) : a.add 0 = a := by simp [Addr.add]
theorem add_lit (g o n : Nat) : (⟨g, o, none⟩ : Addr).add n = ⟨g, o + n, none⟩ := by
  unfold Addr.add
  split
  · rename_i h; subst h; rfl
  · rfl

/-- The slice of address A and length n reads as the cells xs, which lie in blocks of S. -/
def Rd (w : World) (S : Nat → Prop) (size : Nat) (A : Option Addr) (n : Nat) (xs : List Value) : Prop :=
  xs.length = n * size ∧ (0 < n → ∃ B O : Nat, A = some ⟨B, O, none⟩ ∧ S B ∧ ∀ (j : Nat) u, xs[j]? = some u → w.cell? ⟨B, O + j, none⟩ = some u)

section
variable {w w' : World} {S T : Nat → Prop} {A : Option Addr} {size n : Nat} {xs : List Value}
theorem Rd.none_ (w : World) (S : Nat → Prop) (size : Nat) (A : Option Addr) : Rd w S size A 0 [] := ⟨by simp, fun h => absurd h (by omega)⟩
theorem Rd.addr (h : Rd w S size A n xs) (hn : 0 < n) : ∃ B O : Nat, A = some ⟨B, O, none⟩ ∧ S B ∧ ∀ (j : Nat) u, xs[j]? = some u → w.cell? ⟨B, O + j, none⟩ = some u := h.2 hn
theorem Rd.fr (h : Rd w S size A n xs) (hf : Fr T w w') (hd : ∀ k, k < w.heap.size → S k → ¬ T k) : Rd w' S size A n xs :=
  ⟨h.1, fun hn => by
    obtain ⟨B, O, e, hs, hc⟩ := h.2 hn
    refine ⟨B, O, e, hs, fun j u hu => ?_⟩
    have h1 := hc j u hu
    have hlt := World.block_lt_of_cell? _ _ h1
    exact (World.cell?_of_block (hf.block _ hlt (hd _ hlt hs))).trans h1⟩
theorem Rd.below (h : Rd w S size A n xs) (hb : Below w.heap.size w w') : Rd w' S size A n xs := h.fr (Fr.of_below hb (fun _ => False)) fun _ _ _ h => h
theorem Rd.mono (h : Rd w S size A n xs) (hs : ∀ k, k < w.heap.size → S k → T k) (h0 : 0 < size) : Rd w T size A n xs :=
  ⟨h.1, fun hn => by
    obtain ⟨B, O, e, hss, hc⟩ := h.2 hn
    refine ⟨B, O, e, hs _ ?_ hss, hc⟩
    have hl : 0 < xs.length := by rw [h.1]; exact Nat.mul_pos hn h0
    have h1 := hc 0 _ (List.getElem?_eq_getElem hl)
    exact World.block_lt_of_cell? _ _ h1⟩
theorem Rd.drew (h : Rd w S size A n xs) : Rd w.drew S size A n xs := h
theorem Rd.drewN (h : Rd w S size A n xs) (k : Nat) : Rd (w.drewN k) S size A n xs := h
theorem Rd.alloc (h : Rd w S size A n xs) (o : Obj) : Rd (w.alloc o) S size A n xs := h.below (((Below.refl _ _).alloc (Nat.le_refl _) _))
theorem Rd.setCell (h : Rd w S size A n xs) {p : Addr} (hp : ¬ S p.block) (u : Value) : Rd (w.setCell p u) S size A n xs :=
  h.fr ((Fr.refl (· = p.block) _).setCell (.inl rfl) u) fun k _ hs e => hp (by rw [← e]; exact hs)
/-- An owned row, read. -/
theorem Rd.of_own {base : Nat} {e : TypeId} {v : Value} (h : w.ownsRow base e size v n xs) : ∃ A c, v = .slice A n c ∧ Rd w (fun k => base ≤ k ∧ k < w.heap.size) size A n xs := by
  rcases h.2 with ⟨rfl, rfl⟩ | ⟨g, cap, cur, rfl, hb, hg, _⟩
  · have : xs = [] := List.eq_nil_of_length_eq_zero (by simpa using h.1)
    subst this
    exact ⟨none, 0, rfl, Rd.none_ _ _ _ _⟩
  · refine ⟨_, _, rfl, h.1, fun hn => ⟨g, 0, rfl, ⟨hb, (Array.getElem?_eq_some_iff.1 hg).1⟩, fun j u hu => ?_⟩⟩
    have := h.cells (g := g) rfl j u hu
    rwa [add_lit] at this
/-- A block known whole, read. -/
theorem Rd.of_blk {g : Nat} {t : TypeId} {cs : Array Value} (h : Blk w g t cs) (hS : S g) (hn : cs.size = n * size) : Rd w S size (some ⟨g, 0, none⟩) n cs.toList :=
  ⟨by simpa using hn, fun _ => ⟨g, 0, rfl, hS, fun j u hu => by rw [h.cell]; simpa using hu⟩⟩
end

/-- A list of lists, read. -/
def LL (w : World) (S : Nat → Prop) (v : Value) (rows : List (List Value)) : Prop :=
  ∃ A c vs, v = .slice A rows.length c ∧ Rd w S 1 A rows.length vs ∧ ∀ (i : Nat) u r, vs[i]? = some u → rows[i]? = some r → ∃ A' c', u = .slice A' r.length c' ∧ Rd w S 1 A' r.length r
section
variable {w w' : World} {S T : Nat → Prop} {v : Value} {rows : List (List Value)}
theorem LL.fr (h : LL w S v rows) (hf : Fr T w w') (hd : ∀ k, k < w.heap.size → S k → ¬ T k) : LL w' S v rows := by
  obtain ⟨A, c, vs, rfl, h1, h2⟩ := h
  refine ⟨A, c, vs, rfl, h1.fr hf hd, fun i u r hu hr => ?_⟩
  obtain ⟨A', c', e, h3⟩ := h2 i u r hu hr
  exact ⟨A', c', e, h3.fr hf hd⟩
theorem LL.mono (h : LL w S v rows) (hs : ∀ k, k < w.heap.size → S k → T k) : LL w T v rows := by
  obtain ⟨A, c, vs, rfl, h1, h2⟩ := h
  refine ⟨A, c, vs, rfl, h1.mono hs (by omega), fun i u r hu hr => ?_⟩
  obtain ⟨A', c', e, h3⟩ := h2 i u r hu hr
  exact ⟨A', c', e, h3.mono hs (by omega)⟩
theorem LL.below (h : LL w S v rows) (hb : Below w.heap.size w w') : LL w' S v rows := h.fr (Fr.of_below hb (fun _ => False)) fun _ _ _ h => h
theorem LL.drewN (h : LL w S v rows) (k : Nat) : LL (w.drewN k) S v rows := h
end

/-- Rows of a call's own, in a row of its own: eO, eI: the element types without and within. -/
def Rows2 (w : World) (base : Nat) (eO eI : TypeId) (v : Value) (rows : List (List Value)) (vs : List Value) : Prop :=
  w.ownsRow base eO 1 v rows.length vs ∧ (∀ (i : Nat) u r, vs[i]? = some u → rows[i]? = some r → w.ownsRow base eI 1 u r.length r) ∧
  (∀ (i j : Nat) u u', i ≠ j → vs[i]? = some u → vs[j]? = some u' → u.ownBlock = none ∨ u.ownBlock ≠ u'.ownBlock)

section
variable {w w' : World} {base n : Nat} {e eO eI : TypeId} {v : Value} {xs : List Value} {rows : List (List Value)} {vs : List Value}
theorem own_fr {size : Nat} {S : Nat → Prop} (h : w.ownsRow base e size v n xs) (hf : Fr S w w') (hS : ∀ k, v.ownBlock = some k → ¬ S k) : w'.ownsRow base e size v n xs := by
  refine ⟨h.1, ?_⟩
  rcases h.2 with hn | ⟨g, cap, cur, rfl, hb, hg, r⟩
  · exact .inl hn
  · exact .inr ⟨g, cap, cur, rfl, hb, (hf.block g (Array.getElem?_eq_some_iff.1 hg).1 (hS g rfl)).trans hg, r⟩
theorem own_ne {size size' n' : Nat} {e' : TypeId} {v' : Value} {xs' : List Value} {base' : Nat} (h : w.ownsRow base e size v n xs) (h' : w.ownsRow base' e' size' v' n' xs') (hne : e ≠ e') : ∀ k, v.ownBlock = some k → v'.ownBlock ≠ some k := by
  intro k hk hk'
  rcases h.2 with ⟨rfl, _⟩ | ⟨g, cap, cur, rfl, _, hg, _⟩
  · simp [Value.ownBlock] at hk
  · rcases h'.2 with ⟨rfl, _⟩ | ⟨g', cap', cur', rfl, _, hg', _⟩
    · simp [Value.ownBlock] at hk'
    · simp [Value.ownBlock] at hk hk'
      subst hk
      subst hk'
      rw [hg] at hg'
      injection hg' with h1
      injection h1 with _ h2
      exact hne h2

theorem Rows2.nil (w : World) (base : Nat) (eO eI : TypeId) : Rows2 w base eO eI (.slice none 0 0) [] [] :=
  ⟨World.ownsRow_nil _ _ _ _, fun i u r h => by simp at h, fun i j u u' _ h => by simp at h⟩
theorem Rows2.fr {S : Nat → Prop} (h : Rows2 w base eO eI v rows vs) (hf : Fr S w w') (hS : ∀ k, base ≤ k → k < w.heap.size → ¬ S k) : Rows2 w' base eO eI v rows vs :=
  ⟨own_fr h.1 hf fun k hk => by have := h.1.lt k hk; exact hS k this.1 this.2, fun i u r hu hr => own_fr (h.2.1 i u r hu hr) hf fun k hk => by have := (h.2.1 i u r hu hr).lt k hk; exact hS k this.1 this.2, h.2.2⟩
theorem Rows2.alloc (h : Rows2 w base eO eI v rows vs) (o : Obj) : Rows2 (w.alloc o) base eO eI v rows vs := h.fr ((Fr.refl (fun _ => False) _).alloc o) fun _ _ _ h => h
theorem Rows2.drew (h : Rows2 w base eO eI v rows vs) : Rows2 w.drew base eO eI v rows vs := h
theorem Rows2.len (h : Rows2 w base eO eI v rows vs) : vs.length = rows.length := by have := h.1.1; omega
theorem Rows2.read (h : Rows2 w base eO eI v rows vs) : LL w (fun k => base ≤ k ∧ k < w.heap.size) v rows := by
  obtain ⟨A, c, e, hr⟩ := Rd.of_own h.1
  exact ⟨A, c, vs, e, hr, fun i u r hu hr => Rd.of_own (h.2.1 i u r hu hr)⟩
/-- A row more, which lies in none of the others' blocks: behind an append to the outer row. -/
theorem Rows2.snoc {v' u : Value} {r : List Value} (h : Rows2 w base eO eI v rows vs) (hne : eO ≠ eI) (ho : w'.ownsRow base eO 1 v' (rows.length + 1) (vs ++ [u])) (hg : Fr (fun k => v.ownBlock = some k) w w')
    (hu : w.ownsRow base eI 1 u r.length r) (hd : ∀ (i : Nat) u', vs[i]? = some u' → u.ownBlock = none ∨ (u.ownBlock ≠ u'.ownBlock)) : Rows2 w' base eO eI v' (rows ++ [r]) (vs ++ [u]) := by
  have keep : ∀ {u : Value} {r : List Value}, w.ownsRow base eI 1 u r.length r → w'.ownsRow base eI 1 u r.length r := fun {u r} hh => own_fr hh hg fun k hk e2 => own_ne hh h.1 (Ne.symm hne) k hk e2
  have hl := h.len
  refine ⟨by simpa using ho, fun i x y hx hy => ?_, fun i j x y hij hx hy => ?_⟩
  · rcases Nat.lt_or_ge i rows.length with hi | hi
    · rw [List.getElem?_append_left (by omega)] at hx
      rw [List.getElem?_append_left hi] at hy
      exact keep (h.2.1 i x y hx hy)
    · rw [List.getElem?_append_right (by omega)] at hx
      rw [List.getElem?_append_right hi] at hy
      obtain rfl : i = rows.length := by
        have := (List.getElem?_eq_some_iff.1 hy).1
        simp at this; omega
      simp [hl] at hx hy
      subst hx
      subst hy
      exact keep hu
  · have cases_ : ∀ (i : Nat) x, (vs ++ [u])[i]? = some x → (i < vs.length ∧ vs[i]? = some x) ∨ (i = vs.length ∧ x = u) := by
      intro i x hx
      rcases Nat.lt_or_ge i vs.length with hi | hi
      · rw [List.getElem?_append_left hi] at hx; exact .inl ⟨hi, hx⟩
      · rw [List.getElem?_append_right hi] at hx
        have h2 := (List.getElem?_eq_some_iff.1 hx).1
        have h3 : i - vs.length = 0 := by simp at h2; omega
        rw [h3] at hx
        simp at hx
        exact .inr ⟨by omega, hx.symm⟩
    rcases cases_ i x hx with ⟨hi, kx⟩ | ⟨hi, rfl⟩
    · rcases cases_ j y hy with ⟨hj, ky⟩ | ⟨hj, rfl⟩
      · exact h.2.2 i j x y hij kx ky
      · rcases hd i x kx with h1 | h1
        · cases e1 : x.ownBlock with
          | none => exact .inl rfl
          | some k => rw [h1]; exact .inr (by simp)
        · cases e1 : x.ownBlock with
          | none => exact .inl rfl
          | some k => rw [← e1]; exact .inr fun e => h1 e.symm
    · rcases cases_ j y hy with ⟨hj, ky⟩ | ⟨hj, rfl⟩
      · exact hd j y ky
      · omega
/-- One row grown (an append to it), and its new value stored: 'w1' behind the append, the store at cell n of the outer row's block. -/
theorem Rows2.grow {w1 : World} {g cap n : Nat} {u u' : Value} {r r' : List Value} (h : Rows2 w base eO eI (.slice (some ⟨g, 0, none⟩) rows.length cap) rows vs) (hne : eO ≠ eI)
    (hu : vs[n]? = some u) (hr : rows[n]? = some r) (ho : w1.ownsRow base eI 1 u' r'.length r') (hg : Fr (fun k => u.ownBlock = some k) w w1) (hl : u'.ownBlock = u.ownBlock ∨ ∃ q, u'.ownBlock = some q ∧ w.heap.size ≤ q) :
    Rows2 (w1.setCell ⟨g, n, none⟩ u') base eO eI (.slice (some ⟨g, 0, none⟩) rows.length cap) (rows.set n r') (vs.set n u') := by
  have hin := h.2.1 n u r hu hr
  have hgb : u.ownBlock ≠ some g := fun e => own_ne hin h.1 (Ne.symm hne) g e rfl
  have ho1 : w1.ownsRow base eO 1 (.slice (some ⟨g, 0, none⟩) rows.length cap) rows.length vs := own_fr h.1 hg fun k hk e => hgb (by rw [e, ← hk]; rfl)
  have hst := ho1.stored n u'
  have hgl : g < w.heap.size := (h.1.lt g rfl).2
  have hu'g : u'.ownBlock ≠ some g := by
    rcases hl with e | ⟨q, e, hq⟩ <;> rw [e]
    · exact hgb
    · simp; omega
  have keep2 : ∀ {x : Value} {y : List Value}, w1.ownsRow base eI 1 x y.length y → x.ownBlock ≠ some g → (w1.setCell ⟨g, n, none⟩ u').ownsRow base eI 1 x y.length y := fun {x y} hh hb =>
    hh.kept hst.2 (.inr hb)
  have hget : ∀ (i : Nat) x, (vs.set n u')[i]? = some x → (i = n ∧ x = u') ∨ (i ≠ n ∧ vs[i]? = some x) := by
    intro i x hx
    rw [List.getElem?_set] at hx
    split at hx
    · split at hx
      · exact .inl ⟨by omega, (Option.some.inj hx).symm⟩
      · cases hx
    · exact .inr ⟨by omega, hx⟩
  refine ⟨by simpa using hst.1, fun i x y hx hy => ?_, fun i j x y hij hx hy => ?_⟩
  · rcases hget i x hx with ⟨rfl, rfl⟩ | ⟨hi, hx⟩
    · rw [List.getElem?_set, if_pos rfl, if_pos (List.getElem?_eq_some_iff.1 hr).1] at hy
      obtain rfl := Option.some.inj hy
      exact keep2 ho hu'g
    · rw [List.getElem?_set, if_neg (fun e => hi e.symm)] at hy
      have h1 := h.2.1 i x y hx hy
      refine keep2 (own_fr h1 hg fun k hk e => by rcases h.2.2 i n x u hi hx hu with e' | e'; rw [hk] at e'; cases e'; exact e' (hk.trans e.symm)) fun e => own_ne h1 h.1 (Ne.symm hne) g e rfl
  · have new_ : ∀ (k : Nat) z, k ≠ n → vs[k]? = some z → z.ownBlock = none ∨ z.ownBlock ≠ u'.ownBlock := by
      intro k z hk hz
      have hzl : k < rows.length := by have := (List.getElem?_eq_some_iff.1 hz).1; have := h.len; omega
      have h1 := h.2.1 k z _ hz (List.getElem?_eq_getElem hzl)
      rcases hl with e | ⟨q, e, hq⟩
      · rw [e]; exact h.2.2 k n z u hk hz hu
      · cases e1 : z.ownBlock with
        | none => exact .inl rfl
        | some q' =>
          rw [e]
          have := (h1.lt q' e1).2
          exact .inr (by simp; omega)
    rcases hget i x hx with ⟨rfl, rfl⟩ | ⟨hi, kx⟩
    · rcases hget j y hy with ⟨rfl, rfl⟩ | ⟨hj, ky⟩
      · omega
      · rcases new_ j y hj ky with h1 | h1
        · cases e1 : x.ownBlock with
          | none => exact .inl rfl
          | some k => rw [h1]; exact .inr (by simp)
        · exact .inr (Ne.symm h1)
    · rcases hget j y hy with ⟨rfl, rfl⟩ | ⟨hj, ky⟩
      · exact new_ i x hi kx
      · exact h.2.2 i j x y hij kx ky
theorem Rows2.form (h : Rows2 w base eO eI v rows vs) : ∃ A c, v = .slice A rows.length c := by
  obtain ⟨A, c, e, _⟩ := Rd.of_own h.1
  exact ⟨A, c, e⟩
theorem own_form {size : Nat} (h : w.ownsRow base e size v n xs) : ∃ A c, v = .slice A n c := by
  obtain ⟨A, c, e, _⟩ := Rd.of_own h
  exact ⟨A, c, e⟩

/-- An append of one element, which has just been laid into a block of its own. -/
theorem wpList_append_one {P : Program} {ops : Array Oper} {rest : List Oper} {o : Oper} {a : Act} {Q : Exit → Act → World → Prop} (hgd : o.guard = none) (s x : Operand) (t : TypeId)
    (ho : o.op = .call { callee := .builtin .append, args := #[s, x], argTypes := #[t, t] })
    (base : Nat) (e : TypeId) (i : TypeInfo) (z : Value) (bytes : Nat) (ht : P.underlying t = some (.slice e)) (hi : P.info? e = some i) (hz : i.zero = some z)
    (hsize : i.size = 1) (hby : i.bytes = bytes) (hzs : z.cells.size = 1)
    (v : Value) (n : Nat) (xs : List Value) (hs : a.eval s = v) (hown : w.ownsRow base e 1 v n xs) (H : Nat) (hH : w.heap.size = H)
    (u : Value) (hx : a.eval x = .slice (some ⟨H, 0, none⟩) 1 1) (h1 : u.oneCell' = true)
    (h63 : n + 1 ≤ maxLen) (hbytes : (n + 1) * bytes ≤ 140737488355328) (hbase : base ≤ w.heap.size)
    (h : ∀ g cap w', w'.ownsRow base e 1 (.slice (some ⟨g, 0, none⟩) (n + 1) cap) (n + 1) (xs ++ [u]) → Fr (fun k => v.ownBlock = some k) w w' → (v.ownBlock = some g ∨ w.heap.size ≤ g) → g < w'.heap.size → wpList P ops Q rest (a.put o.dst (.slice (some ⟨g, 0, none⟩) (n + 1) cap)) w') :
    wpList P ops Q (o :: rest) a (w.alloc (.cells #[u] e)) := by
  subst hH
  refine wpList_append_lies _ hgd s x t ho base e i z 1 bytes ht hi hz hsize hby hzs (by omega) v n xs hs (hown.alloc _) ⟨w.heap.size, 0, none⟩ 1 1 [u] hx rfl (cell_one_new _ _ _) (by simpa using h1) (by omega) h63 hbytes (by simp; omega) (w.heap.size + 1) (by simp) ?_
  intro g cap w' h2 h3 h4 h5
  refine h g cap w' h2 (((Fr.refl _ w).alloc _).trans' (Fr.of_grown (S := fun k => v.ownBlock = some k) h3 fun k _ e => e) fun i _ e => e) ?_ h5
  rcases h4 with h4 | h4
  · exact .inl h4
  · exact .inr (by omega)
end

/-- An append of one element, which lies in a block that is known whole: at a step of a region that draws, and in a plain one. -/
theorem step_append_blk {P : Program} {w : World} {ops : Array Oper} {o : Oper} {a : Act} {K : Act → World → Prop} {Q : Exit → Act → World → Prop} {E : Prop} (hgd : o.guard = none) (s x : Operand) (t : TypeId)
    (ho : o.op = .call { callee := .builtin .append, args := #[s, x], argTypes := #[t, t] })
    (base : Nat) (e : TypeId) (i : TypeInfo) (z : Value) (bytes : Nat) (ht : P.underlying t = some (.slice e)) (hi : P.info? e = some i) (hz : i.zero = some z)
    (hsize : i.size = 1) (hby : i.bytes = bytes) (hzs : z.cells.size = 1)
    (v : Value) (n : Nat) (xs : List Value) (hs : a.eval s = v) (hown : w.ownsRow base e 1 v n xs) (H : Nat)
    (u : Value) (hx : a.eval x = .slice (some ⟨H, 0, none⟩) 1 1) (hblk : Blk w H e #[u]) (h1 : u.oneCell' = true)
    (h63 : n + 1 ≤ maxLen) (hbytes : (n + 1) * bytes ≤ 140737488355328) (hbase : base ≤ w.heap.size)
    (h : ∀ g cap w', w'.ownsRow base e 1 (.slice (some ⟨g, 0, none⟩) (n + 1) cap) (n + 1) (xs ++ [u]) → Fr (fun k => v.ownBlock = some k) w w' → (v.ownBlock = some g ∨ w.heap.size ≤ g) → g < w'.heap.size → K (a.put o.dst (.slice (some ⟨g, 0, none⟩) (n + 1) cap)) w') :
    if Region.wanted o (yielded ops a.tmps) = true then Oper.wp P o a w K Q else E :=
  step_append_lies _ hgd s x t ho base e i z 1 bytes ht hi hz hsize hby hzs (by omega) v n xs hs hown ⟨H, 0, none⟩ 1 1 [u] hx rfl (World.news_of_block (cs := #[u]) hblk) (by simpa using h1) (by omega) h63 hbytes hbase w.heap.size rfl
    fun g cap w' h2 h3 h4 h5 => h g cap w' h2 (Fr.of_grown h3 fun k _ e => e) (h4.imp id (fun e => by omega)) h5
theorem wpList_append_blk {P : Program} {w : World} {ops : Array Oper} {rest : List Oper} {o : Oper} {a : Act} {Q : Exit → Act → World → Prop} (hgd : o.guard = none) (s x : Operand) (t : TypeId)
    (ho : o.op = .call { callee := .builtin .append, args := #[s, x], argTypes := #[t, t] })
    (base : Nat) (e : TypeId) (i : TypeInfo) (z : Value) (bytes : Nat) (ht : P.underlying t = some (.slice e)) (hi : P.info? e = some i) (hz : i.zero = some z)
    (hsize : i.size = 1) (hby : i.bytes = bytes) (hzs : z.cells.size = 1)
    (v : Value) (n : Nat) (xs : List Value) (hs : a.eval s = v) (hown : w.ownsRow base e 1 v n xs) (H : Nat)
    (u : Value) (hx : a.eval x = .slice (some ⟨H, 0, none⟩) 1 1) (hblk : Blk w H e #[u]) (h1 : u.oneCell' = true)
    (h63 : n + 1 ≤ maxLen) (hbytes : (n + 1) * bytes ≤ 140737488355328) (hbase : base ≤ w.heap.size)
    (h : ∀ g cap w', w'.ownsRow base e 1 (.slice (some ⟨g, 0, none⟩) (n + 1) cap) (n + 1) (xs ++ [u]) → Fr (fun k => v.ownBlock = some k) w w' → (v.ownBlock = some g ∨ w.heap.size ≤ g) → g < w'.heap.size → wpList P ops Q rest (a.put o.dst (.slice (some ⟨g, 0, none⟩) (n + 1) cap)) w') :
    wpList P ops Q (o :: rest) a w :=
  wpList_append_lies _ hgd s x t ho base e i z 1 bytes ht hi hz hsize hby hzs (by omega) v n xs hs hown ⟨H, 0, none⟩ 1 1 [u] hx rfl (World.news_of_block (cs := #[u]) hblk) (by simpa using h1) (by omega) h63 hbytes hbase w.heap.size rfl
    fun g cap w' h2 h3 h4 h5 => h g cap w' h2 (Fr.of_grown h3 fun k _ e => e) (h4.imp id (fun e => by omega)) h5
theorem own_drew {w : World} {base n size : Nat} {e : TypeId} {v : Value} {xs : List Value} (h : w.ownsRow base e size v n xs) : w.drew.ownsRow base e size v n xs := h
theorem own_drewN {w : World} {base n size : Nat} {e : TypeId} {v : Value} {xs : List Value} (h : w.ownsRow base e size v n xs) (k : Nat) : (w.drewN k).ownsRow base e size v n xs := h

/-- A new row of one element: behind the append of a nil row, the append of the element to it, and the store. -/
theorem Rows2.fresh {w w1 w2 : World} {base m g cap : Nat} {eO eI : TypeId} {v u' x : Value} {rows : List (List Value)} {vs : List Value} (h : Rows2 w base eO eI v rows vs) (hm : rows.length = m) (hne : eO ≠ eI)
    (ho : w1.ownsRow base eO 1 (.slice (some ⟨g, 0, none⟩) (m + 1) cap) (m + 1) (vs ++ [.slice none 0 0])) (hg : Fr (fun k => v.ownBlock = some k) w w1)
    (hu : w2.ownsRow base eI 1 u' 1 [x]) (hg2 : Fr (fun k => (Value.slice none 0 0).ownBlock = some k) w1 w2) (hl : ∃ q, u'.ownBlock = some q ∧ w1.heap.size ≤ q) :
    Rows2 (w2.setCell ⟨g, m, none⟩ u') base eO eI (.slice (some ⟨g, 0, none⟩) (m + 1) cap) (rows ++ [[x]]) (vs ++ [u']) := by
  subst hm
  have r1 := h.snoc hne ho hg (World.ownsRow_nil _ _ _ _) (fun _ _ _ => .inl rfl) (r := [])
  have hl1 : (rows ++ [([] : List Value)]).length = rows.length + 1 := by simp
  rw [← hl1] at r1
  have hvl := h.len
  have r2 := r1.grow hne (n := rows.length) (u := .slice none 0 0) (r := []) (by rw [← hvl]; simp) (by simp) (r' := [x]) hu hg2 (.inr hl)
  have e1 : (rows ++ [([] : List Value)]).set rows.length [x] = rows ++ [[x]] := by simp
  have e2 : (vs ++ [Value.slice none 0 0]).set rows.length u' = vs ++ [u'] := by rw [← hvl]; simp
  rw [e1, e2, hl1] at r2
  exact r2

/-- A row more, laid as a literal: behind 'append(out, []int{..})'. -/
theorem Rows2.lit {w w2 : World} {base n : Nat} {eO eI : TypeId} {v v' : Value} {rows : List (List Value)} {vs : List Value} {cs : Array Value} {X : Obj} (h : Rows2 w base eO eI v rows vs) (hne : eO ≠ eI) (hcs : cs.size = n) (hn : n ≤ maxLen) (hb : base ≤ w.heap.size)
    (ho : w2.ownsRow base eO 1 v' (rows.length + 1) (vs ++ [.slice (some ⟨w.heap.size, 0, none⟩) n n])) (hg : Fr (fun k => v.ownBlock = some k) (((w.alloc (.cells cs eI)).alloc X).drew) w2) :
    Rows2 w2 base eO eI v' (rows ++ [cs.toList]) (vs ++ [.slice (some ⟨w.heap.size, 0, none⟩) n n]) := by
  have h1 : Rows2 (((w.alloc (.cells cs eI)).alloc X).drew) base eO eI v rows vs := ((h.alloc _).alloc _).drew
  refine h1.snoc hne ho hg ?_ ?_
  · have hl : cs.toList.length = n := by simpa using hcs
    rw [hl]
    exact ((World.ownsRow_lit w cs n hb hn (by omega)).alloc X)
  · intro i u' hu'
    have hi : i < rows.length := by have := (List.getElem?_eq_some_iff.1 hu').1; have := h.len; omega
    have h2 := h.2.1 i u' _ hu' (List.getElem?_eq_getElem hi)
    refine .inr fun e => ?_
    have := (h2.lt w.heap.size (by rw [← e]; rfl)).2
    omega

/-- Block b is a map from ints to ints, of at most n entries, that answers as f. -/
def IMap (P : Program) (w : World) (k e : TypeId) (b n : Nat) (f : Int → Option Int) : Prop :=
  ∃ D : DataW Unit, w.ownsMap P k (plainElem P e) b n D ∧ ∀ x : Int, Maps.has D (.int .i64 x) = (f x).isSome ∧ ∀ v, f x = some v → D.atKey (.int .i64 x) (.lit (.int .i64 0)) = .lit (.int .i64 v)

section
variable {P : Program} {w w' : World} {k e t : TypeId} {b n : Nat} {f : Int → Option Int}
theorem IMap.made (w : World) : IMap P (w.alloc (.map #[] 0)) k e w.heap.size 0 (fun _ => none) :=
  ⟨.map [], World.ownsMap_made _ _ _ _, fun x => ⟨by simp [Maps.has], fun v h => by cases h⟩⟩
theorem IMap.fr {S : Nat → Prop} (h : IMap P w k e b n f) (hf : Fr S w w') (hS : ¬ S b) : IMap P w' k e b n f := by
  obtain ⟨D, h1, h2⟩ := h
  have hlt := h1.lt
  obtain ⟨es, clock, hb, F, hs, hD⟩ := h1
  exact ⟨D, ⟨es, clock, (hf.block b hlt hS).trans hb, F, hs, hD⟩, h2⟩
theorem IMap.lt (h : IMap P w k e b n f) : b < w.heap.size := by obtain ⟨D, h1, _⟩ := h; exact h1.lt
theorem IMap.mono (h : IMap P w k e b n f) {n' : Nat} (hn : n ≤ n') : IMap P w k e b n' f := by obtain ⟨D, h1, h2⟩ := h; exact ⟨D, h1.mono hn, h2⟩

theorem wpList_lookup_imap {ops : Array Oper} {rest : List Oper} {o : Oper} {a : Act} {Q : Exit → Act → World → Prop} (hg : o.guard = none) (m x : Operand) (t : TypeId) (hop : o.op = Op.lookup t m x true)
    (hk : P.underlying k = some (.int .i64)) (ht : P.underlying t = some (.map k e)) (he : P.underlying e = some (.int .i64)) (hz : (zeroValue e).run P w = .ok (.int .i64 0) w)
    (hm : a.eval m = .map (some b)) (hown : IMap P w k e b n f) (key : Int) (hx : a.eval x = .int .i64 key) (hw : (Lit.int .i64 key).wf = true)
    (hK : wpList P ops Q rest (a.put o.dst (.tuple #[.int .i64 ((f key).getD 0), .bool (f key).isSome])) w) :
    wpList P ops Q (o :: rest) a w := by
  obtain ⟨D, h1, h2⟩ := hown
  obtain ⟨h3, h4⟩ := h2 key
  refine wpList_lookup_own_ok_int w hg m x t hop k e .i64 (Maps.int_keyed hk) ht he hz b n D hm h1 _ _ hx (Maps.keyOf_int_mk hk hw) ?_
  intro c hc _
  have : c = (f key).getD 0 := by
    cases e1 : f key with
    | none =>
      rw [e1] at h3
      rw [Maps.atKey_of_not_has h3] at hc
      simp at hc
      simp [hc]
    | some v =>
      rw [h4 v e1] at hc
      simp at hc
      simp [hc]
  rw [this, h3]
  exact hK

theorem wpList_update_imap {ops : Array Oper} {rest : List Oper} {o : Oper} {a : Act} {Q : Exit → Act → World → Prop} (hg : o.guard = none) (m x v : Operand) (t : TypeId) (hop : o.op = Op.mapUpdate t m x v)
    (hk : P.underlying k = some (.int .i64)) (ht : P.underlying t = some (.map k e)) (he : P.underlying e = some (.int .i64))
    (hm : a.eval m = .map (some b)) (hown : IMap P w k e b n f) (hn : n < maxLen) (key val : Int) (hx : a.eval x = .int .i64 key) (hv : a.eval v = .int .i64 val) (hw : (Lit.int .i64 key).wf = true) (hwv : (Lit.int .i64 val).wf = true)
    (hK : ∀ w', IMap P w' k e b (n + 1) (fun y => if y = key then some val else f y) → Fr (· = b) w w' → wpList P ops Q rest (a.put o.dst undef) w') :
    wpList P ops Q (o :: rest) a w := by
  obtain ⟨D, h1, h2⟩ := hown
  refine wpList_mapUpdate_own w hg m x v t hop k e (Maps.int_keyed hk) ht (plainElem P e) b n D hm h1 hn _ _ (.int .i64 key) hx hv (Maps.keyOf_int_mk hk hw) _ [] (plainElem_int he hwv) ?_
  intro w' h3 h4
  refine hK w' ⟨_, h3, fun y => ?_⟩ (Fr.of_grown h4 fun k _ e => (Option.some.inj e).symm)
  by_cases hy : y = key
  · subst hy
    rw [Maps.has_put_same h1.isMap (by trivial)]
    refine ⟨by simp, fun v hv => ?_⟩
    simp at hv
    subst hv
    exact Maps.atKey_put_same h1.isMap (by trivial) _ _
  · have hne : (Lit.int .i64 y) ≠ .int .i64 key := by simpa using hy
    rw [Maps.has_put_other hne, Maps.atKey_put_other hne]
    simp only [if_neg hy]
    exact h2 y
end

/-! ### Arguments that came in -/
/-- A slice of integers that came in: it is nil; or it leads to a row of 'cap' cells, the numbers 'zs' (the first 'len' are its elements), each fitting its kind. (As the guide's shell of a law's proof has it.) -/
def IsRow (k : IntKind) (w : World) (a : Option Addr) (len cap : Nat) (zs : List Int) : Prop :=
  (a = none ∧ len = 0 ∧ cap = 0 ∧ zs = []) ∨
  ∃ x, a = some x ∧ len ≤ cap ∧ cap ≤ maxLen ∧ zs.length = cap ∧ (∀ i, i < zs.length → w.cell? (x.add i) = some (.int k (zs.getD i 0))) ∧ ∀ n ∈ zs, (Lit.int k n).wf = true

theorem spot_of_cell {w : World} {a : Addr} {v : Value} (h : w.cell? a = some v) : a = ⟨a.block, a.off, none⟩ := by
  obtain ⟨b, o, s⟩ := a
  cases s with
  | none => rfl
  | some s =>
    unfold World.cell? at h
    dsimp only at h
    split at h
    · simp at h
    · cases h

theorem IsRow.read {k : IntKind} {w : World} {a : Option Addr} {len cap : Nat} {zs : List Int} (h : IsRow k w a len cap zs) :
    Rd w (fun _ => True) 1 a len ((zs.take len).map fun n => .int k n) ∧ (∀ n ∈ zs.take len, (Lit.int k n).wf = true) ∧ len ≤ maxLen := by
  rcases h with ⟨rfl, rfl, rfl, rfl⟩ | ⟨x, rfl, hl, hc, hz, hcell, hwf⟩
  · exact ⟨by simpa using Rd.none_ _ _ _ _, by simp, Nat.zero_le _⟩
  · refine ⟨⟨by simp; omega, fun hn => ?_⟩, fun n hn => hwf n (List.mem_of_mem_take hn), Nat.le_trans hl hc⟩
    have h0 := hcell 0 (by omega)
    rw [add_zero] at h0
    have hx := spot_of_cell h0
    generalize x.block = B at hx
    generalize x.off = O at hx
    subst hx
    refine ⟨B, O, rfl, trivial, fun j u hu => ?_⟩
    rw [List.getElem?_map, List.getElem?_take] at hu
    split at hu
    · have hj : j < zs.length := by omega
      have h1 := hcell j hj
      rw [add_lit] at h1
      rw [h1]
      simp [List.getElem?_eq_getElem hj] at hu
      simp [hj, hu]
    · cases hu

theorem IsRow.bytes {w : World} {a : Option Addr} {len cap : Nat} {zs : List Int} (h : IsRow .u8 w a len cap zs) : ∃ bs : List Nat, Rd w (fun _ => True) 1 a len (bytl bs) ∧ (∀ b ∈ bs, b < 256) ∧ len ≤ maxLen := by
  obtain ⟨h1, h2, h3⟩ := h.read
  have hb : ∀ n ∈ zs.take len, 0 ≤ n ∧ n ≤ 255 := fun n hn => by have := h2 n hn; simpa [Lit.wf, IntKind.min, IntKind.max, IntKind.signed, IntKind.bits] using this
  refine ⟨(zs.take len).map Int.toNat, ?_, ?_, h3⟩
  · have e : bytl ((zs.take len).map Int.toNat) = (zs.take len).map fun n => .int .u8 n := by
      unfold bytl
      rw [List.map_map]
      apply List.map_congr_left
      intro n hn
      have := hb n hn
      simp only [Function.comp]
      rw [Int.toNat_of_nonneg this.1]
    rw [e]
    exact h1
  · intro b hbm
    simp only [List.mem_map] at hbm
    obtain ⟨n, hn, rfl⟩ := hbm
    have := hb n hn
    omega
theorem IsRow.ints {w : World} {a : Option Addr} {len cap : Nat} {zs : List Int} (h : IsRow .i64 w a len cap zs) : ∃ l : List Int, Rd w (fun _ => True) 1 a len (intl l) ∧ (∀ b ∈ l, -9223372036854775808 ≤ b ∧ b ≤ 9223372036854775807) ∧ len ≤ maxLen := by
  obtain ⟨h1, h2, h3⟩ := h.read
  exact ⟨zs.take len, h1, fun n hn => by have := h2 n hn; simpa [Lit.wf, IntKind.min, IntKind.max, IntKind.signed, IntKind.bits] using this, h3⟩
theorem byte_of {a : Int} (h : (Lit.int .u8 a).wf = true) : ∃ b : Nat, a = b ∧ b < 256 := by
  have : 0 ≤ a ∧ a ≤ 255 := by simpa [Lit.wf, IntKind.min, IntKind.max, IntKind.signed, IntKind.bits] using h
  exact ⟨a.toNat, by omega, by omega⟩
theorem int_of {a : Int} (h : (Lit.int .i64 a).wf = true) : -9223372036854775808 ≤ a ∧ a ≤ 9223372036854775807 := by
  simpa [Lit.wf, IntKind.min, IntKind.max, IntKind.signed, IntKind.bits] using h
end Go.Proofs.Ytiboffhdabeiiaa
