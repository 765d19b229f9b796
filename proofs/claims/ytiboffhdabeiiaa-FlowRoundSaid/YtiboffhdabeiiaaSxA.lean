/-
  A symbolic state over the model's frames and worlds: slots and blocks by names, what a frame and a world that fit it are, and what becomes of that. Plain lemmas, no program in sight.
-/
import Derived.Test.YtiboffhdabeiiaaMrec
import Derived.Orders
namespace Go.Proofs.Ytiboffhdabeiiaa
open Go Go.RowKit

/-- How one element of a row lies in cells. -/
structure Enc (α : Type) where
  size : Nat
  enc : α → List Value
  dec : List Value → Option α
  zero : α
  len : ∀ a, (enc a).length = size
  pos : 0 < size
  one : ∀ a, ∀ u ∈ enc a, u.oneCell' = true
  decL : ∀ l a, dec l = some a → enc a = l

def flat {α : Type} (E : Enc α) (l : List α) : List Value := l.flatMap E.enc
theorem flat_len {α : Type} (E : Enc α) (l : List α) : (flat E l).length = l.length * E.size := by
  induction l with
  | nil => simp [flat]
  | cons a l ih =>
    have : flat E (a :: l) = E.enc a ++ flat E l := by simp [flat]
    rw [this, List.length_append, ih, E.len, List.length_cons, Nat.succ_mul, Nat.add_comm]
theorem flat_append {α : Type} (E : Enc α) (l m : List α) : flat E (l ++ m) = flat E l ++ flat E m := by simp [flat]
theorem flat_one {α : Type} (E : Enc α) (l : List α) : ∀ u ∈ flat E l, u.oneCell' = true := by
  intro u hu
  simp only [flat, List.mem_flatMap] at hu
  obtain ⟨a, _, h⟩ := hu
  exact E.one a u h
theorem flat_at {α : Type} (E : Enc α) {l : List α} {k : Nat} {a : α} (h : l[k]? = some a) {j : Nat} {u : Value} (hu : (E.enc a)[j]? = some u) : (flat E l)[k * E.size + j]? = some u := by
  induction l generalizing k with
  | nil => simp at h
  | cons b l ih =>
    have e : flat E (b :: l) = E.enc b ++ flat E l := by simp [flat]
    have hj : j < E.size := by have := (List.getElem?_eq_some_iff.1 hu).1; rw [E.len] at this; exact this
    rw [e]
    cases k with
    | zero =>
      simp at h
      subst h
      rw [List.getElem?_append_left (by rw [E.len]; omega)]
      simpa using hu
    | succ k =>
      simp at h
      rw [List.getElem?_append_right (by rw [E.len, Nat.succ_mul]; omega), E.len, Nat.succ_mul, show k * E.size + E.size + j - E.size = k * E.size + j by omega]
      exact ih h
theorem flat_set {α : Type} (E : Enc α) {l : List α} {k : Nat} {a : α} (h : k < l.length) : flat E (l.set k a) = (flat E l).take (k * E.size) ++ (E.enc a ++ (flat E l).drop (k * E.size + E.size)) := by
  induction l generalizing k with
  | nil => simp at h
  | cons b l ih =>
    have e : flat E (b :: l) = E.enc b ++ flat E l := by simp [flat]
    cases k with
    | zero => simp [flat, E.len]
    | succ k =>
      have e2 : flat E ((b :: l).set (k + 1) a) = E.enc b ++ flat E (l.set k a) := by simp [flat]
      rw [e2, e, ih (by simpa using h), Nat.succ_mul]
      rw [List.take_append, List.drop_append, E.len]
      rw [List.take_of_length_le (l := E.enc b) (by rw [E.len]; omega), show k * E.size + E.size - E.size = k * E.size by omega]
      rw [List.drop_eq_nil_of_le (as := E.enc b) (by rw [E.len]; omega), show k * E.size + E.size + E.size - E.size = k * E.size + E.size by omega]
      simp

/-- What a name of a block stands for. -/
structure BI where
  nil : Bool
  B : Nat
  O : Nat
  cap : Nat
  od : Option Addr
  ex : List Nat
def BI.ad (b : BI) : Option Addr := bif b.nil then none else some ⟨b.B, b.O, none⟩
/-- As a value has it: where nothing can be read, any address (od). -/
def BI.dn (b : BI) : Option Addr := bif b.nil then b.od else some ⟨b.B, b.O, none⟩
theorem BI.dn_ad {b : BI} (h : b.od = none) : b.dn = b.ad := by unfold BI.dn BI.ad; rw [h]

/-- Values by names of blocks. -/
inductive SV where
  | v (x : Value)
  | p (id off : Nat)
  | e (id size k j : Nat)
  | a (id len : Nat)
  | agg (l : List SV)
  | tup (l : List SV)
  | fn (f : FuncId) (cap : List SV)
  | mp (id : Nat)
  | ip (t : TypeId) (id off : Nat)

mutual
def SV.den (β : Nat → BI) : SV → Value
  | .v x => x
  | .p id off => .pointer (some ⟨(β id).B, off, none⟩)
  | .e id size k j => .pointer (some ⟨(β id).B, (β id).O + (k * size + j), none⟩)
  | .a id len => .slice (β id).dn len (β id).cap
  | .agg l => .agg (denL β l).toArray
  | .tup l => .tuple (denL β l).toArray
  | .fn f cap => .func (.func f) #[] (denL β cap).toArray
  | .mp id => .map (some (β id).B)
  | .ip t id off => .iface t (.pointer (some ⟨(β id).B, off, none⟩))
def denL (β : Nat → BI) : List SV → List Value
  | [] => []
  | x :: l => x.den β :: denL β l
end
mutual
def SV.ids : SV → List Nat
  | .v _ => []
  | .p id _ => [id]
  | .e id _ _ _ => [id]
  | .a id _ => [id]
  | .agg l => idsL l
  | .tup l => idsL l
  | .fn _ cap => idsL cap
  | .mp id => [id]
  | .ip _ id _ => [id]
def idsL : List SV → List Nat
  | [] => []
  | x :: l => x.ids ++ idsL l
end
mutual
def SV.ren (ρ : Nat → Nat) : SV → SV
  | .v x => .v x
  | .p id off => .p (ρ id) off
  | .e id size k j => .e (ρ id) size k j
  | .a id len => .a (ρ id) len
  | .agg l => .agg (renL ρ l)
  | .tup l => .tup (renL ρ l)
  | .fn f cap => .fn f (renL ρ cap)
  | .mp id => .mp (ρ id)
  | .ip t id off => .ip t (ρ id) off
def renL (ρ : Nat → Nat) : List SV → List SV
  | [] => []
  | x :: l => x.ren ρ :: renL ρ l
end
theorem denL_eq (β : Nat → BI) (l : List SV) : denL β l = l.map (SV.den β) := by
  induction l with
  | nil => rfl
  | cons x l ih => simp [denL, ih]
theorem denL_len (β : Nat → BI) (l : List SV) : (denL β l).length = l.length := by rw [denL_eq]; simp
theorem mem_idsL {l : List SV} {i : Nat} : i ∈ idsL l ↔ ∃ x ∈ l, i ∈ x.ids := by
  induction l with
  | nil => simp [idsL]
  | cons x l ih => simp [idsL, ih]
mutual
theorem SV.den_congr {β β' : Nat → BI} : ∀ (x : SV), (∀ i ∈ x.ids, β i = β' i) → x.den β = x.den β'
  | .v _, _ => rfl
  | .p id _, h => by simp only [SV.den, h id (by simp [SV.ids])]
  | .e id _ _ _, h => by simp only [SV.den, h id (by simp [SV.ids])]
  | .a id _, h => by simp only [SV.den, h id (by simp [SV.ids])]
  | .agg l, h => by simp only [SV.den, denL_congr l h]
  | .tup l, h => by simp only [SV.den, denL_congr l h]
  | .fn _ cap, h => by simp only [SV.den, denL_congr cap h]
  | .mp id, h => by simp only [SV.den, h id (by simp [SV.ids])]
  | .ip _ id _, h => by simp only [SV.den, h id (by simp [SV.ids])]
theorem denL_congr {β β' : Nat → BI} : ∀ (l : List SV), (∀ i ∈ idsL l, β i = β' i) → denL β l = denL β' l
  | [], _ => rfl
  | x :: l, h => by
    simp only [denL]
    rw [SV.den_congr x (fun i hi => h i (by simp [idsL, hi])), denL_congr l (fun i hi => h i (by simp [idsL, hi]))]
end
mutual
theorem SV.den_ren (β : Nat → BI) (ρ : Nat → Nat) : ∀ (x : SV), (x.ren ρ).den β = x.den (fun i => β (ρ i))
  | .v _ => rfl
  | .p _ _ => rfl
  | .e _ _ _ _ => rfl
  | .a _ _ => rfl
  | .agg l => by simp only [SV.ren, SV.den, denL_ren β ρ l]
  | .tup l => by simp only [SV.ren, SV.den, denL_ren β ρ l]
  | .fn _ cap => by simp only [SV.ren, SV.den, denL_ren β ρ cap]
  | .mp _ => rfl
  | .ip _ _ _ => rfl
theorem denL_ren (β : Nat → BI) (ρ : Nat → Nat) : ∀ (l : List SV), denL β (renL ρ l) = denL (fun i => β (ρ i)) l
  | [] => rfl
  | x :: l => by simp only [renL, denL, SV.den_ren β ρ x, denL_ren β ρ l]
end
mutual
theorem SV.ids_ren (ρ : Nat → Nat) : ∀ (x : SV), (x.ren ρ).ids = x.ids.map ρ
  | .v _ => rfl
  | .p _ _ => rfl
  | .e _ _ _ _ => rfl
  | .a _ _ => rfl
  | .agg l => by simp only [SV.ren, SV.ids, idsL_ren ρ l]
  | .tup l => by simp only [SV.ren, SV.ids, idsL_ren ρ l]
  | .fn _ cap => by simp only [SV.ren, SV.ids, idsL_ren ρ cap]
  | .mp _ => rfl
  | .ip _ _ _ => rfl
theorem idsL_ren (ρ : Nat → Nat) : ∀ (l : List SV), idsL (renL ρ l) = (idsL l).map ρ
  | [] => rfl
  | x :: l => by simp only [renL, idsL, SV.ids_ren ρ x, idsL_ren ρ l, List.map_append]
end

/-- A thing in memory of any make: what holds of it, the blocks that it is of. -/
structure ObjT where
  ok : BI → World → Prop
  foot : BI → Nat → Prop
  keep : ∀ b w w', ok b w → (∀ g, foot b g → w'.heap[g]? = w.heap[g]?) → ok b w'
  lt : ∀ b w g, ok b w → foot b g → g < w.heap.size
/-- What lies behind a name. -/
inductive Chunk : Type 1 where
  | cells (t : TypeId) (cs : List SV)
  | ro {α : Type} (E : Enc α) (l : List α)
  | mt {α : Type} (E : Enc α) (l : List α)
  | own {α : Type} (e : TypeId) (E : Enc α) (l : List α)
  | obj (X : ObjT)
  | dead
def Chunk.ids : Chunk → List Nat
  | .cells _ cs => idsL cs
  | _ => []
def Chunk.ren (ρ : Nat → Nat) : Chunk → Chunk
  | .cells t cs => .cells t (renL ρ cs)
  | c => c
theorem Chunk.ids_ren (ρ : Nat → Nat) (c : Chunk) : (c.ren ρ).ids = c.ids.map ρ := by
  cases c <;> simp [Chunk.ren, Chunk.ids, idsL_ren]

def getL {α : Type _} : List (Nat × α) → Nat → Option α
  | [], _ => none
  | (k, v) :: l, t => bif Nat.beq k t then some v else getL l t
theorem getL_cons {α : Type _} (k : Nat) (v : α) (l : List (Nat × α)) (t : Nat) : getL ((k, v) :: l) t = if k = t then some v else getL l t := by
  simp only [getL]
  by_cases h : k = t
  · subst h
    simp
  · rw [if_neg h]
    cases hb : Nat.beq k t
    · rfl
    · exact absurd (Nat.eq_of_beq_eq_true hb) h
theorem getL_append {α : Type _} (m l : List (Nat × α)) (t : Nat) : getL (m ++ l) t = (getL m t).or (getL l t) := by
  induction m with
  | nil => simp [getL]
  | cons p m ih =>
    obtain ⟨k, v⟩ := p
    rw [List.cons_append, getL_cons, getL_cons, ih]
    split <;> simp
theorem getL_mem {α : Type _} {l : List (Nat × α)} {t : Nat} {v : α} (h : getL l t = some v) : (t, v) ∈ l := by
  induction l with
  | nil => simp [getL] at h
  | cons p l ih =>
    obtain ⟨k, u⟩ := p
    rw [getL_cons] at h
    split at h
    · rename_i e
      subst e
      simp at h
      subst h
      simp
    · exact List.mem_cons_of_mem _ (ih h)

structure St : Type 1 where
  sl : List (Nat × SV)
  hp : List (Nat × Chunk)

/-- What a call may turn: blocks of S, and what is new since w0. -/
structure Fm where
  w0 : World
  S : Nat → Prop
  fx : List Nat
  β0 : Nat → BI

def Fm.mine (F : Fm) (g : Nat) : Prop := F.w0.heap.size ≤ g ∨ F.S g

def RdOk {α : Type} (β : Nat → BI) (id : Nat) (w : World) (E : Enc α) (l : List α) : Prop :=
  l ≠ [] → ((β id).nil = false ∧ l.length ≤ (β id).cap) ∧ ∀ (j : Nat) u, (flat E l)[j]? = some u → w.cell? ⟨(β id).B, (β id).O + j, none⟩ = some u

def ChOk (F : Fm) (β : Nat → BI) (id : Nat) (w : World) : Chunk → Prop
  | .cells t cs => (β id).nil = false ∧ (β id).O = 0 ∧ w.heap[(β id).B]? = some (.cells (denL β cs).toArray t (0, 0)) ∧ F.mine (β id).B
  | .ro E l => RdOk β id w E l
  | .mt E l => RdOk β id w E l ∧ (l ≠ [] → F.mine (β id).B ∧ ∀ j, j < (flat E l).length → w.frozen? ⟨(β id).B, (β id).O + j, none⟩ = false)
  | .own e E l => w.ownsRow 0 e E.size (.slice (β id).ad l.length (β id).cap) l.length (flat E l) ∧ (β id).O = 0 ∧ ((β id).nil = false → F.mine (β id).B) ∧ (β id).od = none
  | .obj X => X.ok (β id) w ∧ ∀ g, X.foot (β id) g → F.mine g
  | .dead => True

/-- The blocks that may be written through a name. -/
def Wr (β : Nat → BI) (id : Nat) : Chunk → Nat → Prop
  | .cells _ _, g => g = (β id).B
  | .mt _ l, g => l ≠ [] ∧ g = (β id).B
  | .own _ _ _, g => (β id).nil = false ∧ g = (β id).B
  | .obj X, g => X.foot (β id) g
  | _, _ => False
/-- The blocks that a name reads. -/
def Bl (β : Nat → BI) (id : Nat) : Chunk → Nat → Prop
  | .ro _ l, g => l ≠ [] ∧ g = (β id).B
  | c, g => Wr β id c g

def Sep (β : Nat → BI) (hp : List (Nat × Chunk)) : Prop :=
  ∀ i j ci cj, i ≠ j → getL hp i = some ci → getL hp j = some cj → ∀ g, Wr β i ci g → ¬ Bl β j cj g
def Closed (s : St) : Prop :=
  (∀ t x, getL s.sl t = some x → ∀ i ∈ x.ids, (getL s.hp i).isSome = true) ∧ (∀ i c, getL s.hp i = some c → ∀ j ∈ c.ids, (getL s.hp j).isSome = true)

def HOk (F : Fm) (β : Nat → BI) (hp : List (Nat × Chunk)) (w : World) : Prop := (∀ i c, getL hp i = some c → ChOk F β i w c) ∧ Sep β hp

def SatB (F : Fm) (nt : Nat) (β : Nat → BI) (s : St) (a : Act) (w : World) : Prop :=
  (a.defers = [] ∧ ∀ i ∈ F.fx, (getL s.hp i).isSome = true ∧ β i = F.β0 i) ∧ a.tmps.size = nt ∧ (∀ t x, getL s.sl t = some x → a.tmps[t]? = some (x.den β)) ∧ HOk F β s.hp w ∧ Closed s ∧ Fr F.S F.w0 w
def Sat (F : Fm) (nt : Nat) (s : St) (a : Act) (w : World) : Prop := ∃ β, SatB F nt β s a w

section
variable {F : Fm} {nt : Nat} {β β' : Nat → BI} {s : St} {a : Act} {w w' : World} {id : Nat} {c : Chunk}

theorem frozen_of_block {w w' : World} {p : Addr} (h : w'.heap[p.block]? = w.heap[p.block]?) : w'.frozen? p = w.frozen? p := by
  unfold World.frozen?
  rw [h]

theorem Wr.bl {g : Nat} (h : Wr β id c g) : Bl β id c g := by
  cases c <;> first | exact h | exact h.elim
theorem Bl.congr (hb : β id = β' id) (g : Nat) : Bl β id c g ↔ Bl β' id c g := by
  cases c <;> simp [Bl, Wr, hb]
theorem Wr.congr (hb : β id = β' id) (g : Nat) : Wr β id c g ↔ Wr β' id c g := by
  cases c <;> simp [Wr, hb]

theorem RdOk.keep {α : Type} {E : Enc α} {l : List α} (h : RdOk β id w E l) (hb : l ≠ [] → w'.heap[(β id).B]? = w.heap[(β id).B]?) : RdOk β id w' E l := by
  intro hl
  obtain ⟨h1, h2⟩ := h hl
  exact ⟨h1, fun j u hu => (World.cell?_of_block (hb hl)).trans (h2 j u hu)⟩

/-- A chunk holds in another world whose blocks of it are the same, at names that mean the same. -/
theorem ChOk.keep (h : ChOk F β id w c) (hw : ∀ g, Bl β id c g → w'.heap[g]? = w.heap[g]?) (hb : β id = β' id) (hi : ∀ i ∈ c.ids, β i = β' i) : ChOk F β' id w' c := by
  cases c with
  | cells t cs =>
    obtain ⟨h1, h2, h3, h4⟩ := h
    refine ⟨by rw [← hb]; exact h1, by rw [← hb]; exact h2, ?_, by rw [← hb]; exact h4⟩
    rw [← hb, hw _ rfl, h3, denL_congr cs hi]
  | ro E l =>
    have h1 : RdOk β id w' E l := h.keep (fun hl => hw _ ⟨hl, rfl⟩)
    unfold RdOk at h1
    rw [hb] at h1
    exact h1
  | mt E l =>
    have h1 : RdOk β id w' E l := h.1.keep (fun hl => hw _ ⟨hl, rfl⟩)
    have h2 := h.2
    unfold RdOk at h1
    refine ⟨by unfold RdOk; rw [← hb]; exact h1, fun hl => ⟨by rw [← hb]; exact (h2 hl).1, fun j hj => ?_⟩⟩
    rw [← hb]
    exact (frozen_of_block (hw _ ⟨hl, rfl⟩)).trans ((h2 hl).2 j hj)
  | own e E l =>
    obtain ⟨h1, h2, h0⟩ := h
    refine ⟨?_, by rw [← hb]; exact h2, by rw [← hb]; exact h0⟩
    rw [← hb]
    refine ⟨h1.1, ?_⟩
    rcases h1.2 with hn | ⟨g, cap, cur, hv, r⟩
    · exact .inl hn
    · refine .inr ⟨g, cap, cur, hv, r.1, ?_, r.2.2⟩
      rw [← r.2.1]
      unfold BI.ad at hv
      cases hnil : (β id).nil
      · rw [hnil] at hv
        simp at hv
        exact hw g ⟨hnil, hv.1.1.symm⟩
      · rw [hnil] at hv
        simp at hv
  | obj X =>
    refine ⟨by rw [← hb]; exact X.keep _ _ _ h.1 hw, fun g hg => h.2 g (by rw [hb]; exact hg)⟩
  | dead => trivial

/-- The blocks of a chunk are there. -/
theorem ChOk.lt (h : ChOk F β id w c) {g : Nat} (hg : Bl β id c g) : g < w.heap.size := by
  cases c with
  | cells t cs =>
    obtain ⟨_, _, h3, _⟩ := h
    rw [hg]
    exact (Array.getElem?_eq_some_iff.1 h3).1
  | ro E l =>
    obtain ⟨hl, rfl⟩ := hg
    obtain ⟨_, h2⟩ := h hl
    have hp : 0 < (flat E l).length := by rw [flat_len]; exact Nat.mul_pos (List.length_pos_iff.2 hl) E.pos
    exact World.block_lt_of_cell? _ _ (h2 0 _ (List.getElem?_eq_getElem hp))
  | mt E l =>
    obtain ⟨hl, rfl⟩ := hg
    obtain ⟨_, h2⟩ := h.1 hl
    have hp : 0 < (flat E l).length := by rw [flat_len]; exact Nat.mul_pos (List.length_pos_iff.2 hl) E.pos
    exact World.block_lt_of_cell? _ _ (h2 0 _ (List.getElem?_eq_getElem hp))
  | own e E l =>
    obtain ⟨hn, rfl⟩ := hg
    obtain ⟨h1, _⟩ := h
    rcases h1.2 with hn' | ⟨g, cap, cur, hv, r⟩
    · have := hn'.1
      unfold BI.ad at this
      rw [hn] at this
      simp at this
    · unfold BI.ad at hv
      rw [hn] at hv
      simp at hv
      rw [hv.1.1]
      exact (Array.getElem?_eq_some_iff.1 r.2.1).1
  | obj X => exact X.lt _ _ _ h.1 hg
  | dead => exact hg.elim

/-- Writable blocks are the call's own. -/
theorem ChOk.mine (h : ChOk F β id w c) {g : Nat} (hg : Wr β id c g) : F.mine g := by
  cases c with
  | cells t cs => rw [hg]; exact h.2.2.2
  | ro E l => exact hg.elim
  | mt E l => obtain ⟨hl, rfl⟩ := hg; exact (h.2 hl).1
  | own e E l =>
    obtain ⟨hn, rfl⟩ := hg
    exact h.2.2.1 hn
  | obj X => exact h.2 _ hg
  | dead => exact hg.elim
end
end Go.Proofs.Ytiboffhdabeiiaa
