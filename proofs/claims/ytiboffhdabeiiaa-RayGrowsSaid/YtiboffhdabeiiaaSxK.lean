/-
  A symbolic state over the model's frames and worlds: slots and blocks by names, what a frame and a world that fit it are, and what becomes of that. Plain lemmas, no program in sight.
(Joined texts.)
-/
import Derived.Test.YtiboffhdabeiiaaMrec
import Derived.OrdersIn
import Derived.TacticsIn
import Derived.RangeFuncRecord
import Derived.RangeFuncIn
import Derived.Laws.IdiomCopy
import Derived.Laws.OwnMore
import Derived.Maps.AppendAt
import Derived.Lib.SliceRun
import Derived.WalkSpells
import Derived.Tactics
import Derived.Control
import Derived.Scope
import Derived.Sort.LoopGhostIn
namespace Go.Proofs.Ytiboffhdabeiiaa
open Go Go.RowKit

/-- How one element of a row lies in cells. -/
structure Enc (α : Type) where
  size : Nat
  enc : α → List Value
  dec : List Value → Option α
  zero : α
  len : ∀ a, (enc a).length = size
  pos : 0 < size
  one : ∀ a, ∀ u ∈ enc a, u.oneCell' = true
  decL : ∀ l a, dec l = some a → enc a = l

def flat {α : Type} (E : Enc α) (l : List α) : List Value := l.flatMap E.enc
theorem flat_len {α : Type} (E : Enc α) (l : List α) : (flat E l).length = l.length * E.size := by
  induction l with
  | nil => simp [flat]
  | cons a l ih =>
    have : flat E (a :: l) = E.enc a ++ flat E l := by simp [flat]
    rw [this, List.length_append, ih, E.len, List.length_cons, Nat.succ_mul, Nat.add_comm]
theorem flat_append {α : Type} (E : Enc α) (l m : List α) : flat E (l ++ m) = flat E l ++ flat E m := by simp [flat]
theorem flat_one {α : Type} (E : Enc α) (l : List α) : ∀ u ∈ flat E l, u.oneCell' = true := by
  intro u hu
  simp only [flat, List.mem_flatMap] at hu
  obtain ⟨a, _, h⟩ := hu
  exact E.one a u h
theorem flat_at {α : Type} (E : Enc α) {l : List α} {k : Nat} {a : α} (h : l[k]? = some a) {j : Nat} {u : Value} (hu : (E.enc a)[j]? = some u) : (flat E l)[k * E.size + j]? = some u := by
  induction l generalizing k with
  | nil => simp at h
  | cons b l ih =>
    have e : flat E (b :: l) = E.enc b ++ flat E l := by simp [flat]
    have hj : j < E.size := by have := (List.getElem?_eq_some_iff.1 hu).1; rw [E.len] at this; exact this
    rw [e]
    cases k with
    | zero =>
      simp at h
      subst h
      rw [List.getElem?_append_left (by rw [E.len]; omega)]
      simpa using hu
    | succ k =>
      simp at h
      rw [List.getElem?_append_right (by rw [E.len, Nat.succ_mul]; omega), E.len, Nat.succ_mul, show k * E.size + E.size + j - E.size = k * E.size + j by omega]
      exact ih h
theorem flat_set {α : Type} (E : Enc α) {l : List α} {k : Nat} {a : α} (h : k < l.length) : flat E (l.set k a) = (flat E l).take (k * E.size) ++ (E.enc a ++ (flat E l).drop (k * E.size + E.size)) := by
  induction l generalizing k with
  | nil => simp at h
  | cons b l ih =>
    have e : flat E (b :: l) = E.enc b ++ flat E l := by simp [flat]
    cases k with
    | zero => simp [flat, E.len]
    | succ k =>
      have e2 : flat E ((b :: l).set (k + 1) a) = E.enc b ++ flat E (l.set k a) := by simp [flat]
      rw [e2, e, ih (by simpa using h), Nat.succ_mul]
      rw [List.take_append, List.drop_append, E.len]
      rw [List.take_of_length_le (l := E.enc b) (by rw [E.len]; omega), show k * E.size + E.size - E.size = k * E.size by omega]
      rw [List.drop_eq_nil_of_le (as := E.enc b) (by rw [E.len]; omega), show k * E.size + E.size + E.size - E.size = k * E.size + E.size by omega]
      simp

/-- What a name of a block stands for. -/
structure BI where
  nil : Bool
  B : Nat
  O : Nat
  cap : Nat
  od : Option Addr
  ex : List Nat
def BI.ad (b : BI) : Option Addr := bif b.nil then none else some ⟨b.B, b.O, none⟩
/-- As a value has it: where nothing can be read, any address (od). -/
def BI.dn (b : BI) : Option Addr := bif b.nil then b.od else some ⟨b.B, b.O, none⟩
theorem BI.dn_ad {b : BI} (h : b.od = none) : b.dn = b.ad := by unfold BI.dn BI.ad; rw [h]

/-- Values by names of blocks. -/
inductive SV where
  | v (x : Value)
  | p (id off : Nat)
  | e (id size k j : Nat)
  | a (id len : Nat)
  | agg (l : List SV)
  | tup (l : List SV)
  | fn (f : FuncId) (cap : List SV)
  | mp (id : Nat)
  | ip (t : TypeId) (id off : Nat)
  | yl (id : Nat)

mutual
def SV.den (β : Nat → BI) : SV → Value
  | .v x => x
  | .p id off => .pointer (some ⟨(β id).B, off, none⟩)
  | .e id size k j => .pointer (some ⟨(β id).B, (β id).O + (k * size + j), none⟩)
  | .a id len => .slice (β id).dn len (β id).cap
  | .agg l => .agg (denL β l).toArray
  | .tup l => .tuple (denL β l).toArray
  | .fn f cap => .func (.func f) #[] (denL β cap).toArray
  | .mp id => .map (some (β id).B)
  | .ip t id off => .iface t (.pointer (some ⟨(β id).B, off, none⟩))
  | .yl id => .func (.yield (β id).B) #[] #[]
def denL (β : Nat → BI) : List SV → List Value
  | [] => []
  | x :: l => x.den β :: denL β l
end
mutual
def SV.ids : SV → List Nat
  | .v _ => []
  | .p id _ => [id]
  | .e id _ _ _ => [id]
  | .a id _ => [id]
  | .agg l => idsL l
  | .tup l => idsL l
  | .fn _ cap => idsL cap
  | .mp id => [id]
  | .ip _ id _ => [id]
  | .yl id => [id]
def idsL : List SV → List Nat
  | [] => []
  | x :: l => x.ids ++ idsL l
end
mutual
def SV.ren (ρ : Nat → Nat) : SV → SV
  | .v x => .v x
  | .p id off => .p (ρ id) off
  | .e id size k j => .e (ρ id) size k j
  | .a id len => .a (ρ id) len
  | .agg l => .agg (renL ρ l)
  | .tup l => .tup (renL ρ l)
  | .fn f cap => .fn f (renL ρ cap)
  | .mp id => .mp (ρ id)
  | .ip t id off => .ip t (ρ id) off
  | .yl id => .yl (ρ id)
def renL (ρ : Nat → Nat) : List SV → List SV
  | [] => []
  | x :: l => x.ren ρ :: renL ρ l
end
theorem denL_eq (β : Nat → BI) (l : List SV) : denL β l = l.map (SV.den β) := by
  induction l with
  | nil => rfl
  | cons x l ih => simp [denL, ih]
theorem denL_len (β : Nat → BI) (l : List SV) : (denL β l).length = l.length := by rw [denL_eq]; simp
theorem mem_idsL {l : List SV} {i : Nat} : i ∈ idsL l ↔ ∃ x ∈ l, i ∈ x.ids := by
  induction l with
  | nil => simp [idsL]
  | cons x l ih => simp [idsL, ih]
mutual
theorem SV.den_congr {β β' : Nat → BI} : ∀ (x : SV), (∀ i ∈ x.ids, β i = β' i) → x.den β = x.den β'
  | .v _, _ => rfl
  | .p id _, h => by simp only [SV.den, h id (by simp [SV.ids])]
  | .e id _ _ _, h => by simp only [SV.den, h id (by simp [SV.ids])]
  | .a id _, h => by simp only [SV.den, h id (by simp [SV.ids])]
  | .agg l, h => by simp only [SV.den, denL_congr l h]
  | .tup l, h => by simp only [SV.den, denL_congr l h]
  | .fn _ cap, h => by simp only [SV.den, denL_congr cap h]
  | .mp id, h => by simp only [SV.den, h id (by simp [SV.ids])]
  | .ip _ id _, h => by simp only [SV.den, h id (by simp [SV.ids])]
  | .yl id, h => by simp only [SV.den, h id (by simp [SV.ids])]
theorem denL_congr {β β' : Nat → BI} : ∀ (l : List SV), (∀ i ∈ idsL l, β i = β' i) → denL β l = denL β' l
  | [], _ => rfl
  | x :: l, h => by
    simp only [denL]
    rw [SV.den_congr x (fun i hi => h i (by simp [idsL, hi])), denL_congr l (fun i hi => h i (by simp [idsL, hi]))]
end
mutual
theorem SV.den_ren (β : Nat → BI) (ρ : Nat → Nat) : ∀ (x : SV), (x.ren ρ).den β = x.den (fun i => β (ρ i))
  | .v _ => rfl
  | .p _ _ => rfl
  | .e _ _ _ _ => rfl
  | .a _ _ => rfl
  | .agg l => by simp only [SV.ren, SV.den, denL_ren β ρ l]
  | .tup l => by simp only [SV.ren, SV.den, denL_ren β ρ l]
  | .fn _ cap => by simp only [SV.ren, SV.den, denL_ren β ρ cap]
  | .mp _ => rfl
  | .ip _ _ _ => rfl
  | .yl _ => rfl
theorem denL_ren (β : Nat → BI) (ρ : Nat → Nat) : ∀ (l : List SV), denL β (renL ρ l) = denL (fun i => β (ρ i)) l
  | [] => rfl
  | x :: l => by simp only [renL, denL, SV.den_ren β ρ x, denL_ren β ρ l]
end
mutual
theorem SV.ids_ren (ρ : Nat → Nat) : ∀ (x : SV), (x.ren ρ).ids = x.ids.map ρ
  | .v _ => rfl
  | .p _ _ => rfl
  | .e _ _ _ _ => rfl
  | .a _ _ => rfl
  | .agg l => by simp only [SV.ren, SV.ids, idsL_ren ρ l]
  | .tup l => by simp only [SV.ren, SV.ids, idsL_ren ρ l]
  | .fn _ cap => by simp only [SV.ren, SV.ids, idsL_ren ρ cap]
  | .mp _ => rfl
  | .ip _ _ _ => rfl
  | .yl _ => rfl
theorem idsL_ren (ρ : Nat → Nat) : ∀ (l : List SV), idsL (renL ρ l) = (idsL l).map ρ
  | [] => rfl
  | x :: l => by simp only [renL, idsL, SV.ids_ren ρ x, idsL_ren ρ l, List.map_append]
end

/-- A thing in memory of any make: what holds of it, the blocks that it is of. -/
structure ObjT where
  ok : BI → World → Prop
  foot : BI → Nat → Prop
  keep : ∀ b w w', ok b w → (∀ g, foot b g → w'.heap[g]? = w.heap[g]?) → ok b w'
  lt : ∀ b w g, ok b w → foot b g → g < w.heap.size
  nd : ∀ b w g, ok b w → foot b g → ∀ ds, w.heap[g]? ≠ some (.deferred ds)
/-- A loop over a function, as its record has it. -/
structure LpI where
  nt : Nat
  ps : Array Tmp
  assign : Code
  body : Code
/-- What lies behind a name. -/
inductive Chunk : Type 1 where
  | cells (t : TypeId) (cs : List SV)
  | ro {α : Type} (E : Enc α) (l : List α)
  | mt {α : Type} (E : Enc α) (l : List α)
  | own {α : Type} (e : TypeId) (E : Enc α) (l : List α)
  | obj (X : ObjT)
  | lp (I : LpI) (sl : List (Nat × SV)) (st : LoopState) (pe : Option Code)
  | dead
def renSl (ρ : Nat → Nat) : List (Nat × SV) → List (Nat × SV)
  | [] => []
  | (t, x) :: l => (t, x.ren ρ) :: renSl ρ l
def idsSl : List (Nat × SV) → List Nat
  | [] => []
  | (_, x) :: l => x.ids ++ idsSl l
theorem idsSl_ren (ρ : Nat → Nat) : ∀ (l : List (Nat × SV)), idsSl (renSl ρ l) = (idsSl l).map ρ
  | [] => rfl
  | (t, x) :: l => by simp only [renSl, idsSl, SV.ids_ren ρ x, idsSl_ren ρ l, List.map_append]
def Chunk.ids : Chunk → List Nat
  | .cells _ cs => idsL cs
  | .lp _ sl _ _ => idsSl sl
  | _ => []
def Chunk.ren (ρ : Nat → Nat) : Chunk → Chunk
  | .cells t cs => .cells t (renL ρ cs)
  | .lp I sl st pe => .lp I (renSl ρ sl) st pe
  | c => c
theorem Chunk.ids_ren (ρ : Nat → Nat) (c : Chunk) : (c.ren ρ).ids = c.ids.map ρ := by
  cases c <;> simp [Chunk.ren, Chunk.ids, idsL_ren, idsSl_ren]

def getL {α : Type _} : List (Nat × α) → Nat → Option α
  | [], _ => none
  | (k, v) :: l, t => bif Nat.beq k t then some v else getL l t
theorem getL_cons {α : Type _} (k : Nat) (v : α) (l : List (Nat × α)) (t : Nat) : getL ((k, v) :: l) t = if k = t then some v else getL l t := by
  simp only [getL]
  by_cases h : k = t
  · subst h
    simp
  · rw [if_neg h]
    cases hb : Nat.beq k t
    · rfl
    · exact absurd (Nat.eq_of_beq_eq_true hb) h
theorem getL_append {α : Type _} (m l : List (Nat × α)) (t : Nat) : getL (m ++ l) t = (getL m t).or (getL l t) := by
  induction m with
  | nil => simp [getL]
  | cons p m ih =>
    obtain ⟨k, v⟩ := p
    rw [List.cons_append, getL_cons, getL_cons, ih]
    split <;> simp
theorem getL_mem {α : Type _} {l : List (Nat × α)} {t : Nat} {v : α} (h : getL l t = some v) : (t, v) ∈ l := by
  induction l with
  | nil => simp [getL] at h
  | cons p l ih =>
    obtain ⟨k, u⟩ := p
    rw [getL_cons] at h
    split at h
    · rename_i e
      subst e
      simp at h
      subst h
      simp
    · exact List.mem_cons_of_mem _ (ih h)

/-- The record's slots, as the state has them. -/
def SlOk (β : Nat → BI) (tmps : Array Value) (sl : List (Nat × SV)) : Prop := ∀ t x, getL sl t = some x → tmps[t]? = some (x.den β)
theorem getL_renSl (ρ : Nat → Nat) : ∀ (l : List (Nat × SV)) (t : Nat), getL (renSl ρ l) t = (getL l t).map (SV.ren ρ)
  | [], t => rfl
  | (k, x) :: l, t => by
    simp only [renSl, getL_cons, getL_renSl ρ l t]
    split <;> rfl
theorem getL_idsSl : ∀ {l : List (Nat × SV)} {t : Nat} {x : SV}, getL l t = some x → ∀ i ∈ x.ids, i ∈ idsSl l
  | (k, y) :: l, t, x, h, i, hi => by
    rw [getL_cons] at h
    simp only [idsSl, List.mem_append]
    split at h
    · injection h with h
      subst h
      exact .inl hi
    · exact .inr (getL_idsSl h i hi)
theorem SlOk.congr {β β' : Nat → BI} {tmps : Array Value} {sl : List (Nat × SV)} (h : SlOk β tmps sl) (hi : ∀ i ∈ idsSl sl, β i = β' i) : SlOk β' tmps sl := fun t x ht => by
  rw [h t x ht, SV.den_congr x (fun i hx => hi i (getL_idsSl ht i hx))]
theorem SlOk.ren {β : Nat → BI} {tmps : Array Value} {sl : List (Nat × SV)} {ρ : Nat → Nat} : SlOk β tmps (renSl ρ sl) ↔ SlOk (fun i => β (ρ i)) tmps sl := by
  constructor
  · intro h t x ht
    rw [h t (x.ren ρ) (by rw [getL_renSl, ht]; rfl), SV.den_ren]
  · intro h t x ht
    rw [getL_renSl] at ht
    cases hx : getL sl t with
    | none => rw [hx] at ht; cases ht
    | some y =>
      rw [hx] at ht
      injection ht with ht
      subst ht
      rw [h t y hx, SV.den_ren]
structure St : Type 1 where
  sl : List (Nat × SV)
  hp : List (Nat × Chunk)

/-- What a call may turn: blocks of S, and what is new since w0. -/
structure Fm where
  w0 : World
  S : Nat → Prop
  fx : List Nat
  β0 : Nat → BI
  rd : Option Nat
  hrd : fx.contains 999 = false → rd = none
/-- The fence of a walk: none, but whether the frame is a round's. -/
def fR (r : Option Nat) : Fence := { fn := fun _ => True, depth := none, alive := false, round := r }

def Fm.mine (F : Fm) (g : Nat) : Prop := F.w0.heap.size ≤ g ∨ F.S g

def RdOk {α : Type} (β : Nat → BI) (id : Nat) (w : World) (E : Enc α) (l : List α) : Prop :=
  l ≠ [] → ((β id).nil = false ∧ l.length ≤ (β id).cap) ∧ ∀ (j : Nat) u, (flat E l)[j]? = some u → w.cell? ⟨(β id).B, (β id).O + j, none⟩ = some u

def ChOk (F : Fm) (β : Nat → BI) (id : Nat) (w : World) : Chunk → Prop
  | .cells t cs => (β id).nil = false ∧ (β id).O = 0 ∧ w.heap[(β id).B]? = some (.cells (denL β cs).toArray t (0, 0)) ∧ F.mine (β id).B
  | .ro E l => RdOk β id w E l
  | .mt E l => RdOk β id w E l ∧ (l ≠ [] → F.mine (β id).B ∧ ∀ j, j < (flat E l).length → w.frozen? ⟨(β id).B, (β id).O + j, none⟩ = false)
  | .own e E l => w.ownsRow 0 e E.size (.slice (β id).ad l.length (β id).cap) l.length (flat E l) ∧ (β id).O = 0 ∧ ((β id).nil = false → F.mine (β id).B) ∧ (β id).od = none
  | .obj X => X.ok (β id) w ∧ ∀ g, X.foot (β id) g → F.mine g
  | .lp I sl st pe => ∃ fn tmps D, (w.heap[(β id).B]? = some (.loop ⟨st, pe, fn, tmps, I.ps, I.assign, I.body, D⟩) ∧ tmps.size = I.nt ∧ SlOk β tmps sl) ∧ F.mine (β id).B
  | .dead => True

/-- The blocks that may be written through a name. -/
def Wr (β : Nat → BI) (id : Nat) : Chunk → Nat → Prop
  | .cells _ _, g => g = (β id).B
  | .mt _ l, g => l ≠ [] ∧ g = (β id).B
  | .own _ _ _, g => (β id).nil = false ∧ g = (β id).B
  | .obj X, g => X.foot (β id) g
  | .lp _ _ _ _, g => g = (β id).B
  | _, _ => False
/-- The blocks that a name reads. -/
def Bl (β : Nat → BI) (id : Nat) : Chunk → Nat → Prop
  | .ro _ l, g => l ≠ [] ∧ g = (β id).B
  | c, g => Wr β id c g

def Sep (β : Nat → BI) (hp : List (Nat × Chunk)) : Prop :=
  ∀ i j ci cj, i ≠ j → getL hp i = some ci → getL hp j = some cj → ∀ g, Wr β i ci g → ¬ Bl β j cj g
def Closed (s : St) : Prop :=
  (∀ t x, getL s.sl t = some x → ∀ i ∈ x.ids, (getL s.hp i).isSome = true) ∧ (∀ i c, getL s.hp i = some c → ∀ j ∈ c.ids, (getL s.hp j).isSome = true)

def HOk (F : Fm) (β : Nat → BI) (hp : List (Nat × Chunk)) (w : World) : Prop := (∀ i c, getL hp i = some c → ChOk F β i w c) ∧ Sep β hp

/-- What is kept for a function's end: marks of loops over functions, nothing behind them. -/
def DfOk (F : Fm) (ds : List Deferred) (w : World) : Prop := (∀ d ∈ ds, ∃ D, d = ⟨.collected D, #[]⟩ ∧ F.w0.heap.size ≤ D ∧ w.heap[D]? = some (.deferred (some []))) ∧ ds.Nodup
def SatB (F : Fm) (nt : Nat) (β : Nat → BI) (s : St) (a : Act) (w : World) : Prop :=
  (DfOk F a.defers w ∧ ∀ i ∈ F.fx, (getL s.hp i).isSome = true ∧ β i = F.β0 i) ∧ a.tmps.size = nt ∧ (∀ t x, getL s.sl t = some x → a.tmps[t]? = some (x.den β)) ∧ HOk F β s.hp w ∧ Closed s ∧ Fr F.S F.w0 w
def Sat (F : Fm) (nt : Nat) (s : St) (a : Act) (w : World) : Prop := ∃ β, SatB F nt β s a w

section
variable {F : Fm} {nt : Nat} {β β' : Nat → BI} {s : St} {a : Act} {w w' : World} {id : Nat} {c : Chunk}

theorem frozen_of_block {w w' : World} {p : Addr} (h : w'.heap[p.block]? = w.heap[p.block]?) : w'.frozen? p = w.frozen? p := by
  unfold World.frozen?
  rw [h]

theorem Wr.bl {g : Nat} (h : Wr β id c g) : Bl β id c g := by
  cases c <;> first | exact h | exact h.elim
theorem Bl.congr (hb : β id = β' id) (g : Nat) : Bl β id c g ↔ Bl β' id c g := by
  cases c <;> simp [Bl, Wr, hb]
theorem Wr.congr (hb : β id = β' id) (g : Nat) : Wr β id c g ↔ Wr β' id c g := by
  cases c <;> simp [Wr, hb]

theorem RdOk.keep {α : Type} {E : Enc α} {l : List α} (h : RdOk β id w E l) (hb : l ≠ [] → w'.heap[(β id).B]? = w.heap[(β id).B]?) : RdOk β id w' E l := by
  intro hl
  obtain ⟨h1, h2⟩ := h hl
  exact ⟨h1, fun j u hu => (World.cell?_of_block (hb hl)).trans (h2 j u hu)⟩

/-- A chunk holds in another world whose blocks of it are the same, at names that mean the same. -/
theorem ChOk.keep (h : ChOk F β id w c) (hw : ∀ g, Bl β id c g → w'.heap[g]? = w.heap[g]?) (hb : β id = β' id) (hi : ∀ i ∈ c.ids, β i = β' i) : ChOk F β' id w' c := by
  cases c with
  | cells t cs =>
    obtain ⟨h1, h2, h3, h4⟩ := h
    refine ⟨by rw [← hb]; exact h1, by rw [← hb]; exact h2, ?_, by rw [← hb]; exact h4⟩
    rw [← hb, hw _ rfl, h3, denL_congr cs hi]
  | ro E l =>
    have h1 : RdOk β id w' E l := h.keep (fun hl => hw _ ⟨hl, rfl⟩)
    unfold RdOk at h1
    rw [hb] at h1
    exact h1
  | mt E l =>
    have h1 : RdOk β id w' E l := h.1.keep (fun hl => hw _ ⟨hl, rfl⟩)
    have h2 := h.2
    unfold RdOk at h1
    refine ⟨by unfold RdOk; rw [← hb]; exact h1, fun hl => ⟨by rw [← hb]; exact (h2 hl).1, fun j hj => ?_⟩⟩
    rw [← hb]
    exact (frozen_of_block (hw _ ⟨hl, rfl⟩)).trans ((h2 hl).2 j hj)
  | own e E l =>
    obtain ⟨h1, h2, h0⟩ := h
    refine ⟨?_, by rw [← hb]; exact h2, by rw [← hb]; exact h0⟩
    rw [← hb]
    refine ⟨h1.1, ?_⟩
    rcases h1.2 with hn | ⟨g, cap, cur, hv, r⟩
    · exact .inl hn
    · refine .inr ⟨g, cap, cur, hv, r.1, ?_, r.2.2⟩
      rw [← r.2.1]
      unfold BI.ad at hv
      cases hnil : (β id).nil
      · rw [hnil] at hv
        simp at hv
        exact hw g ⟨hnil, hv.1.1.symm⟩
      · rw [hnil] at hv
        simp at hv
  | obj X =>
    refine ⟨by rw [← hb]; exact X.keep _ _ _ h.1 hw, fun g hg => h.2 g (by rw [hb]; exact hg)⟩
  | lp I sl st pe =>
    obtain ⟨fn, tmps, D, ⟨h1, h2, h3⟩, h4⟩ := h
    exact ⟨fn, tmps, D, ⟨by rw [← hb, hw _ rfl, h1], h2, h3.congr hi⟩, by rw [← hb]; exact h4⟩
  | dead => trivial

/-- The blocks of a chunk are there. -/
theorem ChOk.lt (h : ChOk F β id w c) {g : Nat} (hg : Bl β id c g) : g < w.heap.size := by
  cases c with
  | cells t cs =>
    obtain ⟨_, _, h3, _⟩ := h
    rw [hg]
    exact (Array.getElem?_eq_some_iff.1 h3).1
  | ro E l =>
    obtain ⟨hl, rfl⟩ := hg
    obtain ⟨_, h2⟩ := h hl
    have hp : 0 < (flat E l).length := by rw [flat_len]; exact Nat.mul_pos (List.length_pos_iff.2 hl) E.pos
    exact World.block_lt_of_cell? _ _ (h2 0 _ (List.getElem?_eq_getElem hp))
  | mt E l =>
    obtain ⟨hl, rfl⟩ := hg
    obtain ⟨_, h2⟩ := h.1 hl
    have hp : 0 < (flat E l).length := by rw [flat_len]; exact Nat.mul_pos (List.length_pos_iff.2 hl) E.pos
    exact World.block_lt_of_cell? _ _ (h2 0 _ (List.getElem?_eq_getElem hp))
  | own e E l =>
    obtain ⟨hn, rfl⟩ := hg
    obtain ⟨h1, _⟩ := h
    rcases h1.2 with hn' | ⟨g, cap, cur, hv, r⟩
    · have := hn'.1
      unfold BI.ad at this
      rw [hn] at this
      simp at this
    · unfold BI.ad at hv
      rw [hn] at hv
      simp at hv
      rw [hv.1.1]
      exact (Array.getElem?_eq_some_iff.1 r.2.1).1
  | obj X => exact X.lt _ _ _ h.1 hg
  | lp I sl st pe =>
    obtain ⟨fn, tmps, D, ⟨h1, _, _⟩, _⟩ := h
    rw [hg]
    exact (Array.getElem?_eq_some_iff.1 h1).1
  | dead => exact hg.elim

/-- Writable blocks are the call's own. -/
theorem ChOk.mine (h : ChOk F β id w c) {g : Nat} (hg : Wr β id c g) : F.mine g := by
  cases c with
  | cells t cs => rw [hg]; exact h.2.2.2
  | ro E l => exact hg.elim
  | mt E l => obtain ⟨hl, rfl⟩ := hg; exact (h.2 hl).1
  | own e E l =>
    obtain ⟨hn, rfl⟩ := hg
    exact h.2.2.1 hn
  | obj X => exact h.2 _ hg
  | lp I sl st pe =>
    obtain ⟨_, _, _, _, h4⟩ := h
    rw [hg]
    exact h4
  | dead => exact hg.elim
theorem nd_cell {p : Addr} {v : Value} (h : w.cell? p = some v) (ds : Option (List Deferred)) : w.heap[p.block]? ≠ some (.deferred ds) := by
  intro e
  unfold World.cell? at h
  rw [e] at h
  simp at h
/-- No block of a chunk is kept for a function's end. -/
theorem ChOk.nd (h : ChOk F β id w c) {g : Nat} (hg : Bl β id c g) (ds : Option (List Deferred)) : w.heap[g]? ≠ some (.deferred ds) := by
  cases c with
  | cells t cs =>
    rw [hg, h.2.2.1]
    simp
  | ro E l =>
    obtain ⟨hl, rfl⟩ := hg
    obtain ⟨_, h2⟩ := h hl
    have hp : 0 < (flat E l).length := by rw [flat_len]; exact Nat.mul_pos (List.length_pos_iff.2 hl) E.pos
    exact nd_cell (h2 0 _ (List.getElem?_eq_getElem hp)) ds
  | mt E l =>
    obtain ⟨hl, rfl⟩ := hg
    obtain ⟨_, h2⟩ := h.1 hl
    have hp : 0 < (flat E l).length := by rw [flat_len]; exact Nat.mul_pos (List.length_pos_iff.2 hl) E.pos
    exact nd_cell (h2 0 _ (List.getElem?_eq_getElem hp)) ds
  | own e E l =>
    obtain ⟨hn, rfl⟩ := hg
    obtain ⟨h1, _⟩ := h
    rcases h1.2 with hn' | ⟨g, cap, cur, hv, r⟩
    · have := hn'.1
      unfold BI.ad at this
      rw [hn] at this
      simp at this
    · unfold BI.ad at hv
      rw [hn] at hv
      simp at hv
      rw [hv.1.1, r.2.1]
      simp
  | obj X => exact X.nd _ _ _ h.1 hg ds
  | lp I sl st pe =>
    obtain ⟨fn, tmps, D, ⟨h1, _, _⟩, _⟩ := h
    rw [hg, h1]
    simp
  | dead => exact hg.elim
/-- What is kept for the end stays, where only blocks of names are written. -/
theorem DfOk.keep {ds : List Deferred} (h : DfOk F ds w) (hw : ∀ D : Nat, w.heap[D]? = some (Obj.deferred (some [])) → w'.heap[D]? = w.heap[D]?) : DfOk F ds w' :=
  ⟨fun d hd => by
    obtain ⟨D, h1, h2, h3⟩ := h.1 d hd
    exact ⟨D, h1, h2, (hw D h3).trans h3⟩, h.2⟩
end
end Go.Proofs.Ytiboffhdabeiiaa

/-
  The symbolic state: a slot is put, names are made and rewritten. Plain lemmas, no program in sight.
-/
namespace Go.Proofs.Ytiboffhdabeiiaa
open Go Go.RowKit

section
variable {F : Fm} {nt : Nat} {β β' : Nat → BI} {s : St} {a : Act} {w w' : World}

theorem SatB.put (h : SatB F nt β s a w) {t : Nat} {x : SV} (ht : t < nt) (hx : ∀ i ∈ x.ids, (getL s.hp i).isSome = true) : SatB F nt β ⟨(t, x) :: s.sl, s.hp⟩ (a.put (some t) (x.den β)) w := by
  obtain ⟨h1, h2, h3, h4, h5, h6⟩ := h
  refine ⟨h1, by simpa [Act.put] using h2, ?_, h4, ⟨?_, h5.2⟩, h6⟩
  · intro u y hu
    simp only [getL_cons] at hu
    split at hu
    · rename_i e
      subst e
      injection hu with hu
      subst hu
      simp [Act.put, h2, ht]
    · rename_i e
      have := h3 u y hu
      simp only [Act.put]
      rw [Array.getElem?_setIfInBounds_ne e]
      exact this
  · intro u y hu
    simp only [getL_cons] at hu
    split at hu
    · injection hu with hu
      subst hu
      exact hx
    · exact h5.1 u y hu

theorem SatB.skip (h : SatB F nt β s a w) (v : Value) : SatB F nt β s (a.put none v) w := h

theorem isSome_app {α : Type _} {m l : List (Nat × α)} {i : Nat} (h : (getL l i).isSome = true) : (getL (m ++ l) i).isSome = true := by
  rw [getL_append]
  cases getL m i <;> simp [h]

/-- Names are rewritten and made: wr; only blocks of rewritten names turn; what the new ones read and write is fresh, or was a rewritten one's. -/
theorem SatB.move {T : Nat → Prop} (h : SatB F nt β s a w) (wr : List (Nat × Chunk)) (hβ : ∀ i, (getL s.hp i).isSome = true → β i = β' i) (hfr : Fr T w w')
    (hT : ∀ g, T g → ∃ i c, getL s.hp i = some c ∧ (getL wr i).isSome = true ∧ Wr β i c g)
    (hok : ∀ i c, getL wr i = some c → ChOk F β' i w' c)
    (hwr : ∀ i c g, getL wr i = some c → Wr β' i c g → w.heap.size ≤ g ∨ ∃ j c0, getL s.hp j = some c0 ∧ (getL wr j).isSome = true ∧ Wr β j c0 g)
    (hbl : ∀ i c g, getL wr i = some c → Bl β' i c g → w.heap.size ≤ g ∨ ∃ j c0, getL s.hp j = some c0 ∧ Bl β j c0 g ∧ ((getL wr j).isSome = true ∨ ¬ Wr β j c0 g))
    (hsep : Sep β' wr) (hcl : ∀ i c, getL wr i = some c → ∀ j ∈ c.ids, (getL (wr ++ s.hp) j).isSome = true) : SatB F nt β' ⟨s.sl, wr ++ s.hp⟩ a w' := by
  obtain ⟨h1, h2, h3, h4, h5, h6⟩ := h
  have old : ∀ {i c}, getL (wr ++ s.hp) i = some c → getL wr i = none → getL s.hp i = some c := by
    intro i c hi hn
    rw [getL_append, hn] at hi
    simpa using hi
  have new : ∀ {i c c'}, getL (wr ++ s.hp) i = some c → getL wr i = some c' → getL wr i = some c := by
    intro i c c' hi hn
    rw [getL_append, hn] at hi
    rw [hn]
    simpa using hi
  have keepB : ∀ {i c}, getL s.hp i = some c → getL wr i = none → ∀ g, Bl β i c g → w'.heap[g]? = w.heap[g]? := by
    intro i c hi hn g hg
    refine hfr.block g ((h4.1 i c hi).lt hg) (fun ht => ?_)
    obtain ⟨j, cj, hj, hjw, hw⟩ := hT g ht
    have hne : j ≠ i := by
      rintro rfl
      rw [hn] at hjw
      simp at hjw
    exact h4.2 j i cj c hne hj hi g hw hg
  refine ⟨⟨h1.1.keep (fun D hD => hfr.block D (Array.getElem?_eq_some_iff.1 hD).1 (fun ht => by
      obtain ⟨i, c, hi, _, hw⟩ := hT D ht
      exact (h4.1 i c hi).nd hw.bl _ hD)), fun i hi => ⟨isSome_app (h1.2 i hi).1, by rw [← hβ i (h1.2 i hi).1]; exact (h1.2 i hi).2⟩⟩, h2, ?_, ⟨?_, ?_⟩, ⟨?_, ?_⟩, ?_⟩
  · intro t x ht
    rw [h3 t x ht, SV.den_congr x (fun i hi => hβ i (h5.1 t x ht i hi))]
  · intro i c hi
    cases hn : getL wr i with
    | some c' => exact hok i c (new hi hn)
    | none =>
      have ho := old hi hn
      exact (h4.1 i c ho).keep (keepB ho hn) (hβ i (by rw [ho]; rfl)) (fun j hj => hβ j (h5.2 i c ho j hj))
  · intro i j ci cj hne hi hj g hwi hbj
    dsimp only at hi hj
    cases hin : getL wr i with
    | some c' =>
      have hi' := new hi hin
      cases hjn : getL wr j with
      | some c'' => exact hsep i j ci cj hne hi' (new hj hjn) g hwi hbj
      | none =>
        have hjo := old hj hjn
        have hbj' : Bl β j cj g := (Bl.congr (hβ j (by rw [hjo]; rfl)) g).2 hbj
        rcases hwr i ci g hi' hwi with hf | ⟨k, c0, hk, hkw, hkwr⟩
        · have := (h4.1 j cj hjo).lt hbj'
          omega
        · have hkj : k ≠ j := by
            rintro rfl
            rw [hjn] at hkw
            simp at hkw
          exact h4.2 k j c0 cj hkj hk hjo g hkwr hbj'
    | none =>
      have hio := old hi hin
      have hwi' : Wr β i ci g := (Wr.congr (hβ i (by rw [hio]; rfl)) g).2 hwi
      cases hjn : getL wr j with
      | some c'' =>
        rcases hbl j cj g (new hj hjn) hbj with hf | ⟨k, c0, hk, hkb, hkr⟩
        · have := (h4.1 i ci hio).lt hwi'.bl
          omega
        · by_cases hik : i = k
          · subst hik
            rw [hio] at hk
            injection hk with hk
            subst hk
            rcases hkr with hkr | hkr
            · rw [hin] at hkr
              simp at hkr
            · exact hkr hwi'
          · exact h4.2 i k ci c0 hik hio hk g hwi' hkb
      | none =>
        have hjo := old hj hjn
        exact h4.2 i j ci cj hne hio hjo g hwi' ((Bl.congr (hβ j (by rw [hjo]; rfl)) g).2 hbj)
  · intro t x ht i hi
    exact isSome_app (h5.1 t x ht i hi)
  · intro i c hi j hj
    dsimp only at hi ⊢
    cases hn : getL wr i with
    | some c' => exact hcl i c (new hi hn) j hj
    | none => exact isSome_app (h5.2 i c (old hi hn) j hj)
  · refine h6.trans' hfr (fun g hg ht => ?_)
    obtain ⟨i, c, hi, _, hw⟩ := hT g ht
    rcases (h4.1 i c hi).mine hw with hm | hm
    · omega
    · exact hm

def upd (β : Nat → BI) (i : Nat) (b : BI) : Nat → BI := fun j => if j = i then b else β j
theorem upd_same (β : Nat → BI) (i : Nat) (b : BI) : upd β i b i = b := by simp [upd]
theorem upd_other (β : Nat → BI) {i j : Nat} (b : BI) (h : j ≠ i) : upd β i b j = β j := by simp [upd, h]
theorem upd_old {i : Nat} {b : BI} (hn : getL s.hp i = none) : ∀ j, (getL s.hp j).isSome = true → β j = upd β i b j := by
  intro j hj
  rw [upd_other]
  rintro rfl
  rw [hn] at hj
  simp at hj
theorem upd_den {i : Nat} {b : BI} {x : SV} (hn : getL s.hp i = none) (hx : ∀ j ∈ x.ids, (getL s.hp j).isSome = true) : x.den (upd β i b) = x.den β :=
  (SV.den_congr x (fun j hj => upd_old hn j (hx j hj))).symm
theorem upd_denL {i : Nat} {b : BI} {l : List SV} (hn : getL s.hp i = none) (hx : ∀ j ∈ idsL l, (getL s.hp j).isSome = true) : denL (upd β i b) l = denL β l :=
  (denL_congr l (fun j hj => upd_old hn j (hx j hj))).symm

/-- A name is made, of a block that is new. -/
theorem SatB.new (h : SatB F nt β s a w) (i : Nat) (c : Chunk) (b : BI) (hn : getL s.hp i = none) (hfr : Fr (fun _ => False) w w') (hok : ChOk F (upd β i b) i w' c)
    (hbl : ∀ g, Bl (upd β i b) i c g → w.heap.size ≤ g) (hcl : ∀ j ∈ c.ids, (getL s.hp j).isSome = true) : SatB F nt (upd β i b) ⟨s.sl, (i, c) :: s.hp⟩ a w' := by
  have one : ∀ {j d}, getL [(i, c)] j = some d → j = i ∧ d = c := by
    intro j d hj
    rw [getL_cons] at hj
    split at hj
    · rename_i e
      injection hj with hj
      exact ⟨e.symm, hj.symm⟩
    · simp [getL] at hj
  refine h.move (β' := upd β i b) (w' := w') (T := fun _ => False) [(i, c)] (upd_old hn) hfr (fun _ ht => ht.elim) ?_ ?_ ?_ ?_ ?_
  · intro j d hj
    obtain ⟨rfl, rfl⟩ := one hj
    exact hok
  · intro j d g hj hg
    obtain ⟨rfl, rfl⟩ := one hj
    exact .inl (hbl g hg.bl)
  · intro j d g hj hg
    obtain ⟨rfl, rfl⟩ := one hj
    exact .inl (hbl g hg)
  · intro j k cj ck hne hj hk
    exact absurd ((one hj).1.trans (one hk).1.symm) hne
  · intro j d hj k hk
    obtain ⟨rfl, rfl⟩ := one hj
    exact isSome_app (hcl k hk)

/-- What lies behind a name is rewritten in place. -/
theorem SatB.rewrite (h : SatB F nt β s a w) (i : Nat) (c c' : Chunk) (hi : getL s.hp i = some c) (hfr : Fr (fun g => Wr β i c g) w w') (hok : ChOk F β i w' c')
    (hwr : ∀ g, Wr β i c' g → Wr β i c g) (hbl : ∀ g, Bl β i c' g → Bl β i c g) (hcl : ∀ j ∈ c'.ids, (getL s.hp j).isSome = true) : SatB F nt β ⟨s.sl, (i, c') :: s.hp⟩ a w' := by
  have one : ∀ {j d}, getL [(i, c')] j = some d → j = i ∧ d = c' := by
    intro j d hj
    rw [getL_cons] at hj
    split at hj
    · rename_i e
      injection hj with hj
      exact ⟨e.symm, hj.symm⟩
    · simp [getL] at hj
  have self : (getL [(i, c')] i).isSome = true := by simp [getL_cons]
  refine h.move (β' := β) (w' := w') (T := fun g => Wr β i c g) [(i, c')] (fun _ _ => rfl) hfr (fun g ht => ⟨i, c, hi, self, ht⟩) ?_ ?_ ?_ ?_ ?_
  · intro j d hj
    obtain ⟨rfl, rfl⟩ := one hj
    exact hok
  · intro j d g hj hg
    obtain ⟨rfl, rfl⟩ := one hj
    exact .inr ⟨j, c, hi, self, hwr g hg⟩
  · intro j d g hj hg
    obtain ⟨rfl, rfl⟩ := one hj
    exact .inr ⟨j, c, hi, hbl g hg, .inl self⟩
  · intro j k cj ck hne hj hk
    exact absurd ((one hj).1.trans (one hk).1.symm) hne
  · intro j d hj k hk
    obtain ⟨rfl, rfl⟩ := one hj
    exact isSome_app (hcl k hk)

theorem SatB.drew (h : SatB F nt β s a w) : SatB F nt β s a w.drew := by
  obtain ⟨h1, h2, h3, h4, h5, h6⟩ := h
  exact ⟨h1, h2, h3, ⟨fun i c hi => (h4.1 i c hi).keep (fun _ _ => rfl) rfl (fun _ _ => rfl), h4.2⟩, h5, h6.drew⟩
theorem Sat.drew (h : Sat F nt s a w) : Sat F nt s a w.drew := by
  obtain ⟨β, h⟩ := h
  exact ⟨β, h.drew⟩

/-- Two states that answer alike. -/
def St.eqv (s s' : St) : Prop := (∀ t, getL s.sl t = getL s'.sl t) ∧ (∀ i, getL s.hp i = getL s'.hp i)
theorem St.eqv.symm {s s' : St} (h : s.eqv s') : s'.eqv s := ⟨fun t => (h.1 t).symm, fun i => (h.2 i).symm⟩
theorem St.eqv.trans {s s' s'' : St} (h : s.eqv s') (k : s'.eqv s'') : s.eqv s'' := ⟨fun t => (h.1 t).trans (k.1 t), fun i => (h.2 i).trans (k.2 i)⟩
theorem St.eqv.refl (s : St) : s.eqv s := ⟨fun _ => rfl, fun _ => rfl⟩
theorem Sat.eqv {s s' : St} (h : Sat F nt s a w) (e : s.eqv s') : Sat F nt s' a w := by
  obtain ⟨β, h1, h2, h3, h4, h5, h6⟩ := h
  refine ⟨β, ⟨h1.1, fun i hi => ⟨by rw [← e.2 i]; exact (h1.2 i hi).1, (h1.2 i hi).2⟩⟩, h2, fun t x ht => h3 t x ((e.1 t).trans ht), ⟨fun i c hi => h4.1 i c ((e.2 i).trans hi), fun i j ci cj hne hi hj => h4.2 i j ci cj hne ((e.2 i).trans hi) ((e.2 j).trans hj)⟩, ⟨?_, ?_⟩, h6⟩
  · intro t x ht i hi
    rw [← e.2 i]
    exact h5.1 t x ((e.1 t).trans ht) i hi
  · intro i c hi j hj
    rw [← e.2 j]
    exact h5.2 i c ((e.2 i).trans hi) j hj
end

/-- What an operation does to the symbolic state. -/
structure SD : Type 1 where
  ins : List (Nat × SV)
  hin : List (Nat × Chunk)
  fr : List Nat
  dst : Option Nat
  v : SV
  wr : List (Nat × Chunk)
def SD.pre (d : SD) (s : St) : Prop := (∀ p ∈ d.ins, getL s.sl p.1 = some p.2) ∧ (∀ p ∈ d.hin, getL s.hp p.1 = some p.2) ∧ (∀ i ∈ d.fr, getL s.hp i = none)
def SD.app (d : SD) (s : St) : St := ⟨(match d.dst with | some t => (t, d.v) :: s.sl | none => s.sl), d.wr ++ s.hp⟩
def NoExit (_ : Exit) (_ : Act) (_ : World) : Prop := False
/-- In a state that has what it looks at the operation does so. -/
def StepOk (P : Program) (nt : Nat) (o : Oper) (d : SD) : Prop :=
  d.dst = o.dst ∧ ∀ F s a w, Sat F nt s a w → d.pre s → o.wpIn (fR F.rd) 0 P a w (fun a' w' => Sat F nt (d.app s) a' w') NoExit
/-- The operation leads from one state to another one. -/
structure OpR (P : Program) (nt : Nat) (s : St) (o : Oper) (d : SD) (s' : St) : Prop where
  ok : StepOk P nt o d
  pre : d.pre s
  out : s' = d.app s

/-- An operand's value. -/
def evS (sl : List (Nat × SV)) : Operand → Option SV
  | .tmp t => getL sl t
  | .const v => some (.v v)
  | .func f => some (.fn f [])
  | .global _ => none
def insOf : Operand → SV → List (Nat × SV)
  | .tmp t, X => [(t, X)]
  | _, _ => []
/-- What an operand that is no slot is. -/
def evC : Operand → SV → Prop
  | .tmp _, _ => True
  | .const v, X => X = .v v
  | .func f, X => X = .fn f []
  | .global _, _ => False
theorem evC_of {sl : List (Nat × SV)} {x : Operand} {X : SV} (h : evS sl x = some X) : evC x X := by
  cases x <;> simp [evS, evC] at h ⊢
  · exact h.symm
  · exact h.symm
theorem insOf_pre {s : St} {x : Operand} {X : SV} (h : evS s.sl x = some X) : ∀ p ∈ insOf x X, getL s.sl p.1 = some p.2 := by
  cases x <;> simp [insOf] ; exact h
theorem eval_of {β : Nat → BI} {a : Act} {x : Operand} {X : SV} (hc : evC x X) (h : ∀ p ∈ insOf x X, a.tmps[p.1]? = some (p.2.den β)) : a.eval x = X.den β := by
  cases x with
  | tmp t =>
    have := h (t, X) (by simp [insOf])
    simp only [Act.eval, Array.getD_eq_getD_getElem?, this, Option.getD_some]
  | const v =>
    simp [evC] at hc
    subst hc
    rfl
  | func f =>
    simp [evC] at hc
    subst hc
    rfl
  | global g => exact hc.elim
theorem ids_of {s : St} {x : Operand} {X : SV} (hcl : Closed s) (hc : evC x X) (h : ∀ p ∈ insOf x X, getL s.sl p.1 = some p.2) : ∀ i ∈ X.ids, (getL s.hp i).isSome = true := by
  cases x with
  | tmp t => exact hcl.1 t X (h (t, X) (by simp [insOf]))
  | const v =>
    simp [evC] at hc
    subst hc
    simp [SV.ids]
  | func f =>
    simp [evC] at hc
    subst hc
    simp [SV.ids, idsL]
  | global g => exact hc.elim

section
variable {P : Program} {nt : Nat} {o : Oper} {d : SD}

theorem about_wide {r : Option Nat} {o : Oper} {a : Act} {w : World} : ∀ f, o.about P w a.eval = some f → (fR r).fn f := fun _ _ => trivial
/-- What is carried out is no defer statement. -/
theorem semAt_run {r : Option Nat} {o : Oper} {ρ : Operand → Value} {w w' : World} {x : Next} (hx : ∀ d, x ≠ .defer d) (h : (execOp ρ o).run P w = .ok x w') : (o.semAt r ρ).run P w = .ok x w' := by
  rw [Oper.semAt_eq r ρ o (fun c hc => ?_)]
  · exact h
  · unfold execOp at h
    rw [hc] at h
    simp only [Sem.run_bind] at h
    cases hr : (resolve ρ c o.type).run P w with
    | ok d w1 =>
      rw [hr] at h
      simp [Result.andThen] at h
      exact hx d h.1.symm
    | halt y w1 =>
      rw [hr] at h
      simp [Result.andThen] at h
theorem Oper.wp_ok {r : Option Nat} {o : Oper} {a : Act} {w w' : World} {K : Act → World → Prop} {Q : Exit → Act → World → Prop} {v : Value} (h : (execOp a.eval o).run P w = .ok (.value v) w') (hk : K (a.put o.dst v) w') : o.wpIn (fR r) 0 P a w K Q := by
  refine ⟨about_wide, ?_⟩
  rw [show (fR r).round = r from rfl, semAt_run (by simp) h]
  exact hk
theorem Oper.wp_skip {r : Option Nat} {o : Oper} {a : Act} {w w' : World} {K : Act → World → Prop} {Q : Exit → Act → World → Prop} (h : (execOp a.eval o).run P w = .ok .skip w') (hk : K (a.put o.dst undef) w') : o.wpIn (fR r) 0 P a w K Q := by
  refine ⟨about_wide, ?_⟩
  rw [show (fR r).round = r from rfl, semAt_run (by simp) h]
  exact hk

/-- An operation that only looks: its value in every frame and world that have what it looks at. -/
theorem StepOk.quiet {ins : List (Nat × SV)} {hin : List (Nat × Chunk)} {t : Nat} {X : SV} (hd : o.dst = some t) (ht : t < nt)
    (hids : ∀ s : St, Closed s → (∀ p ∈ ins, getL s.sl p.1 = some p.2) → (∀ p ∈ hin, getL s.hp p.1 = some p.2) → ∀ i ∈ X.ids, (getL s.hp i).isSome = true)
    (h : ∀ (F : Fm) (β : Nat → BI) (a : Act) (w : World), (∀ p ∈ ins, a.tmps[p.1]? = some (p.2.den β)) → (∀ p ∈ hin, ChOk F β p.1 w p.2) → (execOp a.eval o).run P w = .ok (.value (X.den β)) w) :
    StepOk P nt o ⟨ins, hin, [], some t, X, []⟩ := by
  refine ⟨hd.symm, fun F s a w hs hp => ?_⟩
  obtain ⟨β, hs⟩ := hs
  obtain ⟨p1, p2, _⟩ := hp
  refine Oper.wp_ok (h F β a w (fun p hp => hs.2.2.1 _ _ (p1 p hp)) (fun p hp => hs.2.2.2.1.1 _ _ (p2 p hp))) ?_
  rw [hd]
  exact ⟨β, hs.put ht (hids s hs.2.2.2.2.1 p1 p2)⟩
end
end Go.Proofs.Ytiboffhdabeiiaa

/-
  The symbolic state: the operations that only look. Plain lemmas over any program.
-/
namespace Go.Proofs.Ytiboffhdabeiiaa
open Go Go.RowKit

class TyInt (P : Program) (T : TypeId) (k : outParam IntKind) : Prop where
  h : P.underlying T = some (.int k)
def aggOf (P : Program) (T : TypeId) : Option Bool := match P.underlying T with
  | some (.struct _) => some true
  | some (.array _ _) => some true
  | some _ => some false
  | none => none
class TyShape (P : Program) (T : TypeId) (agg : outParam Bool) (n : outParam Nat) : Prop where
  h : aggOf P T = some agg
  hn : (P.info? T).map (·.size) = some n
def fieldOf (P : Program) (T : TypeId) (i : Nat) : Option (Nat × TypeId) := match P.underlying T with
  | some (.struct fs) => (fs[i]?).map fun f => (f.offset, f.type)
  | _ => none
class TyField (P : Program) (T : TypeId) (i : Nat) (off : outParam Nat) (ft : outParam TypeId) (agg : outParam Bool) (n : outParam Nat) : Prop where
  h : fieldOf P T i = some (off, ft)
  ha : aggOf P ft = some agg
  hn : (P.info? ft).map (·.size) = some n
  pos : n ≠ 0
class TySlice (P : Program) (T : TypeId) (e : outParam TypeId) (size : outParam Nat) : Prop where
  h : P.underlying T = some (.slice e)
  hn : (P.info? e).map (·.size) = some size

section
variable {P : Program} {w : World}
theorem run_isAgg' {T : TypeId} {b : Bool} (h : aggOf P T = some b) : (isAgg T).run P w = .ok b w := by
  unfold aggOf at h
  split at h
  all_goals (first | (injection h with h; subst h) | cases h)
  · rename_i fs he
    simp [isAgg, run_underlying he]
  · rename_i n e he
    simp [isAgg, run_underlying he]
  · rename_i d h1 h2 he
    simp only [isAgg, Sem.run_bind, run_underlying he, Result.andThen_ok]
    rfl
theorem run_sizeOf' {T : TypeId} {n : Nat} (h : (P.info? T).map (·.size) = some n) : (sizeOf T).run P w = .ok n w := by
  cases hi : P.info? T with
  | none => rw [hi] at h; cases h
  | some i =>
    rw [hi] at h
    simp at h
    simp [sizeOf, typeInfo, hi, h]
end

section
variable {P : Program} {nt : Nat} {o : Oper} {sl : List (Nat × SV)} {hp : List (Nat × Chunk)} {t : Nat}

theorem OpR.q1 {x : Operand} {X V : SV} (hd : o.dst = some t) (ht : Nat.blt t nt = true) (hx : evS sl x = some X) (hids : ∀ i ∈ V.ids, i ∈ X.ids)
    (h : ∀ (β : Nat → BI) (a : Act) (w : World), a.eval x = X.den β → (execOp a.eval o).run P w = .ok (.value (V.den β)) w) :
    OpR P nt ⟨sl, hp⟩ o ⟨insOf x X, [], [], some t, V, []⟩ ⟨(t, V) :: sl, hp⟩ := by
  refine ⟨StepOk.quiet hd (by simp [Nat.blt] at ht; omega) ?_ ?_, ⟨insOf_pre (s := ⟨sl, hp⟩) hx, by simp, by simp⟩, rfl⟩
  · intro s hc hp _ i hi
    exact ids_of hc (evC_of hx) hp i (hids i hi)
  · intro F β a w hp _
    exact h β a w (eval_of (evC_of hx) hp)
theorem OpR.q2 {x y : Operand} {X Y V : SV} (hd : o.dst = some t) (ht : Nat.blt t nt = true) (hx : evS sl x = some X) (hy : evS sl y = some Y) (hids : ∀ i ∈ V.ids, i ∈ X.ids ∨ i ∈ Y.ids)
    (h : ∀ (β : Nat → BI) (a : Act) (w : World), a.eval x = X.den β → a.eval y = Y.den β → (execOp a.eval o).run P w = .ok (.value (V.den β)) w) :
    OpR P nt ⟨sl, hp⟩ o ⟨insOf x X ++ insOf y Y, [], [], some t, V, []⟩ ⟨(t, V) :: sl, hp⟩ := by
  refine ⟨StepOk.quiet hd (by simp [Nat.blt] at ht; omega) ?_ ?_, ⟨?_, by simp, by simp⟩, rfl⟩
  · intro s hc hp _ i hi
    rcases hids i hi with h1 | h1
    · exact ids_of hc (evC_of hx) (fun p hp' => hp p (List.mem_append_left _ hp')) i h1
    · exact ids_of hc (evC_of hy) (fun p hp' => hp p (List.mem_append_right _ hp')) i h1
  · intro F β a w hp _
    exact h β a w (eval_of (evC_of hx) (fun p hp' => hp p (List.mem_append_left _ hp'))) (eval_of (evC_of hy) (fun p hp' => hp p (List.mem_append_right _ hp')))
  · intro p hp'
    rcases List.mem_append.1 hp' with h1 | h1
    · exact insOf_pre (s := ⟨sl, hp⟩) hx p h1
    · exact insOf_pre (s := ⟨sl, hp⟩) hy p h1

variable {ty : TypeId} {pos : String} {af : Array Edge} {g : Option (Nat × Bool)}

theorem OpR.move {x : Operand} {X : SV} (hx : evS sl x = some X) (ht : Nat.blt t nt = true) : OpR P nt ⟨sl, hp⟩ ⟨some t, .move x, ty, pos, af, g⟩ ⟨insOf x X, [], [], some t, X, []⟩ ⟨(t, X) :: sl, hp⟩ :=
  OpR.q1 rfl ht hx (fun _ h => h) fun β a w h => by simp [execOp, h]
theorem OpR.assign {x : Operand} {X : SV} (hx : evS sl x = some X) (ht : Nat.blt t nt = true) : OpR P nt ⟨sl, hp⟩ ⟨some t, .assign x, ty, pos, af, g⟩ ⟨insOf x X, [], [], some t, X, []⟩ ⟨(t, X) :: sl, hp⟩ :=
  OpR.q1 rfl ht hx (fun _ h => h) fun β a w h => by simp [execOp, h]
theorem OpR.pickT {c x y : Operand} {b : Bool} {X : SV} (hc : evS sl c = some (.v (.bool b))) (hb : b = true) (hx : evS sl x = some X) (ht : Nat.blt t nt = true) :
    OpR P nt ⟨sl, hp⟩ ⟨some t, .pick c x y, ty, pos, af, g⟩ ⟨insOf c (.v (.bool b)) ++ insOf x X, [], [], some t, X, []⟩ ⟨(t, X) :: sl, hp⟩ :=
  OpR.q2 rfl ht hc hx (fun _ h => .inr h) fun β a w h1 h2 => by subst hb; simp [execOp, h1, h2, SV.den, asBool]
theorem OpR.pickF {c x y : Operand} {b : Bool} {Y : SV} (hc : evS sl c = some (.v (.bool b))) (hb : b = false) (hy : evS sl y = some Y) (ht : Nat.blt t nt = true) :
    OpR P nt ⟨sl, hp⟩ ⟨some t, .pick c x y, ty, pos, af, g⟩ ⟨insOf c (.v (.bool b)) ++ insOf y Y, [], [], some t, Y, []⟩ ⟨(t, Y) :: sl, hp⟩ :=
  OpR.q2 rfl ht hc hy (fun _ h => .inr h) fun β a w h1 h2 => by subst hb; simp [execOp, h1, h2, SV.den, asBool]

/-- Two plain values, put together. -/
theorem OpR.binv {op : BinOp} {T T' : TypeId} {x y : Operand} {A B V : Value} (hx : evS sl x = some (.v A)) (hy : evS sl y = some (.v B)) (ht : Nat.blt t nt = true)
    (h : ∀ w : World, (do eqGuard op T x y A B; binOp op T A B : Sem Value).run P w = .ok V w) :
    OpR P nt ⟨sl, hp⟩ ⟨some t, .binOp op T x y T', ty, pos, af, g⟩ ⟨insOf x (.v A) ++ insOf y (.v B), [], [], some t, .v V, []⟩ ⟨(t, .v V) :: sl, hp⟩ :=
  OpR.q2 rfl ht hx hy (fun _ h => by simp [SV.ids] at h) fun β a w h1 h2 => by
    have := h w
    simp only [Sem.run_bind] at this
    simp only [execOp, h1, h2, SV.den, Sem.run_bind]
    rw [this]
    rfl
section
variable {T T' : TypeId} {x y : Operand} {k : IntKind} {a b : Int} (hx : evS sl x = some (.v (.int k a))) (hy : evS sl y = some (.v (.int k b))) (ht : Nat.blt t nt = true)
include hx hy ht
theorem OpR.lss : OpR P nt ⟨sl, hp⟩ ⟨some t, .binOp .lss T x y T', ty, pos, af, g⟩ ⟨insOf x (.v (.int k a)) ++ insOf y (.v (.int k b)), [], [], some t, .v (.bool (decide (a < b))), []⟩ ⟨(t, .v (.bool (decide (a < b)))) :: sl, hp⟩ :=
  OpR.binv hx hy ht fun w => by simp [go_sem]
theorem OpR.leq : OpR P nt ⟨sl, hp⟩ ⟨some t, .binOp .leq T x y T', ty, pos, af, g⟩ ⟨insOf x (.v (.int k a)) ++ insOf y (.v (.int k b)), [], [], some t, .v (.bool (decide (a ≤ b))), []⟩ ⟨(t, .v (.bool (decide (a ≤ b)))) :: sl, hp⟩ :=
  OpR.binv hx hy ht fun w => by simp [go_sem]
theorem OpR.gtr : OpR P nt ⟨sl, hp⟩ ⟨some t, .binOp .gtr T x y T', ty, pos, af, g⟩ ⟨insOf x (.v (.int k a)) ++ insOf y (.v (.int k b)), [], [], some t, .v (.bool (decide (b < a))), []⟩ ⟨(t, .v (.bool (decide (b < a)))) :: sl, hp⟩ :=
  OpR.binv hx hy ht fun w => by simp [go_sem]
theorem OpR.geq : OpR P nt ⟨sl, hp⟩ ⟨some t, .binOp .geq T x y T', ty, pos, af, g⟩ ⟨insOf x (.v (.int k a)) ++ insOf y (.v (.int k b)), [], [], some t, .v (.bool (decide (b ≤ a))), []⟩ ⟨(t, .v (.bool (decide (b ≤ a)))) :: sl, hp⟩ :=
  OpR.binv hx hy ht fun w => by simp [go_sem]
theorem OpR.eql : OpR P nt ⟨sl, hp⟩ ⟨some t, .binOp .eql T x y T', ty, pos, af, g⟩ ⟨insOf x (.v (.int k a)) ++ insOf y (.v (.int k b)), [], [], some t, .v (.bool (decide (a = b))), []⟩ ⟨(t, .v (.bool (decide (a = b)))) :: sl, hp⟩ :=
  OpR.binv hx hy ht fun w => by simp [go_sem]; by_cases h : a = b <;> simp [h]
theorem OpR.neq : OpR P nt ⟨sl, hp⟩ ⟨some t, .binOp .neq T x y T', ty, pos, af, g⟩ ⟨insOf x (.v (.int k a)) ++ insOf y (.v (.int k b)), [], [], some t, .v (.bool (decide (a ≠ b))), []⟩ ⟨(t, .v (.bool (decide (a ≠ b)))) :: sl, hp⟩ :=
  OpR.binv hx hy ht fun w => by simp [go_sem]; by_cases h : a = b <;> simp [h, bne]
theorem OpR.addK {r : Int} (hr : k.wrap (a + b) = r) : OpR P nt ⟨sl, hp⟩ ⟨some t, .binOp .add T x y T', ty, pos, af, g⟩ ⟨insOf x (.v (.int k a)) ++ insOf y (.v (.int k b)), [], [], some t, .v (.int k r), []⟩ ⟨(t, .v (.int k r)) :: sl, hp⟩ :=
  OpR.binv hx hy ht fun w => by subst hr; simp [go_sem]
theorem OpR.subK {r : Int} (hr : k.wrap (a - b) = r) : OpR P nt ⟨sl, hp⟩ ⟨some t, .binOp .sub T x y T', ty, pos, af, g⟩ ⟨insOf x (.v (.int k a)) ++ insOf y (.v (.int k b)), [], [], some t, .v (.int k r), []⟩ ⟨(t, .v (.int k r)) :: sl, hp⟩ :=
  OpR.binv hx hy ht fun w => by subst hr; simp [go_sem]
theorem OpR.mulK {r : Int} (hr : k.wrap (a * b) = r) : OpR P nt ⟨sl, hp⟩ ⟨some t, .binOp .mul T x y T', ty, pos, af, g⟩ ⟨insOf x (.v (.int k a)) ++ insOf y (.v (.int k b)), [], [], some t, .v (.int k r), []⟩ ⟨(t, .v (.int k r)) :: sl, hp⟩ :=
  OpR.binv hx hy ht fun w => by subst hr; simp [go_sem]
theorem OpR.quoK {r : Int} (h0 : b ≠ 0) (hr : k.wrap (a.tdiv b) = r) : OpR P nt ⟨sl, hp⟩ ⟨some t, .binOp .quo T x y T', ty, pos, af, g⟩ ⟨insOf x (.v (.int k a)) ++ insOf y (.v (.int k b)), [], [], some t, .v (.int k r), []⟩ ⟨(t, .v (.int k r)) :: sl, hp⟩ :=
  OpR.binv hx hy ht fun w => by subst hr; simp [go_sem, h0]
theorem OpR.remK {r : Int} (h0 : b ≠ 0) (hr : a.tmod b = r) : OpR P nt ⟨sl, hp⟩ ⟨some t, .binOp .rem T x y T', ty, pos, af, g⟩ ⟨insOf x (.v (.int k a)) ++ insOf y (.v (.int k b)), [], [], some t, .v (.int k r), []⟩ ⟨(t, .v (.int k r)) :: sl, hp⟩ :=
  OpR.binv hx hy ht fun w => by subst hr; simp [go_sem, h0]
theorem OpR.quoP (h0 : 0 ≤ a) (h1 : 0 < b) (hr : a ≤ k.max) : OpR P nt ⟨sl, hp⟩ ⟨some t, .binOp .quo T x y T', ty, pos, af, g⟩ ⟨insOf x (.v (.int k a)) ++ insOf y (.v (.int k b)), [], [], some t, .v (.int k (a / b)), []⟩ ⟨(t, .v (.int k (a / b))) :: sl, hp⟩ := by
  refine OpR.quoK hx hy ht (by omega) ?_
  rw [Int.tdiv_eq_ediv_of_nonneg h0]
  have h2 : 0 ≤ a / b := Int.ediv_nonneg h0 (by omega)
  have h3 : a / b ≤ a := Int.ediv_le_self _ h0
  generalize a / b = q at *
  cases k <;> simp [IntKind.max, IntKind.signed, IntKind.bits] at hr <;> simp [IntKind.wrap, IntKind.signed, IntKind.bits] <;> omega
theorem OpR.remP (h0 : 0 ≤ a) (h1 : 0 < b) : OpR P nt ⟨sl, hp⟩ ⟨some t, .binOp .rem T x y T', ty, pos, af, g⟩ ⟨insOf x (.v (.int k a)) ++ insOf y (.v (.int k b)), [], [], some t, .v (.int k (a % b)), []⟩ ⟨(t, .v (.int k (a % b))) :: sl, hp⟩ :=
  OpR.remK hx hy ht (by omega) (Int.tmod_eq_emod_of_nonneg h0)
end
theorem wrap64_in {n : Int} (h1 : -9223372036854775808 ≤ n) (h2 : n ≤ 9223372036854775807) : IntKind.i64.wrap n = n := IntWalk.i64_in _ ⟨h1, h2⟩
section
variable {T T' : TypeId} {x y : Operand} {a b : Int} (hx : evS sl x = some (.v (.int .i64 a))) (hy : evS sl y = some (.v (.int .i64 b))) (ht : Nat.blt t nt = true)
include hx hy ht
theorem OpR.add64 (h1 : -9223372036854775808 ≤ a + b) (h2 : a + b ≤ 9223372036854775807) : OpR P nt ⟨sl, hp⟩ ⟨some t, .binOp .add T x y T', ty, pos, af, g⟩ ⟨insOf x (.v (.int .i64 a)) ++ insOf y (.v (.int .i64 b)), [], [], some t, .v (.int .i64 (a + b)), []⟩ ⟨(t, .v (.int .i64 (a + b))) :: sl, hp⟩ :=
  OpR.addK hx hy ht (wrap64_in h1 h2)
theorem OpR.sub64 (h1 : -9223372036854775808 ≤ a - b) (h2 : a - b ≤ 9223372036854775807) : OpR P nt ⟨sl, hp⟩ ⟨some t, .binOp .sub T x y T', ty, pos, af, g⟩ ⟨insOf x (.v (.int .i64 a)) ++ insOf y (.v (.int .i64 b)), [], [], some t, .v (.int .i64 (a - b)), []⟩ ⟨(t, .v (.int .i64 (a - b))) :: sl, hp⟩ :=
  OpR.subK hx hy ht (wrap64_in h1 h2)
theorem OpR.mul64 (h1 : -9223372036854775808 ≤ a * b) (h2 : a * b ≤ 9223372036854775807) : OpR P nt ⟨sl, hp⟩ ⟨some t, .binOp .mul T x y T', ty, pos, af, g⟩ ⟨insOf x (.v (.int .i64 a)) ++ insOf y (.v (.int .i64 b)), [], [], some t, .v (.int .i64 (a * b)), []⟩ ⟨(t, .v (.int .i64 (a * b))) :: sl, hp⟩ :=
  OpR.mulK hx hy ht (wrap64_in h1 h2)
end
theorem OpR.unv {op : UnOp} {T : TypeId} {x : Operand} {A V : Value} (hx : evS sl x = some (.v A)) (ht : Nat.blt t nt = true) (h : ∀ w : World, (Op.unary op A).run P w = .ok V w) :
    OpR P nt ⟨sl, hp⟩ ⟨some t, .unOp op T x, ty, pos, af, g⟩ ⟨insOf x (.v A), [], [], some t, .v V, []⟩ ⟨(t, .v V) :: sl, hp⟩ :=
  OpR.q1 rfl ht hx (fun _ h => by simp [SV.ids] at h) fun β a w h1 => by simp [execOp, h1, SV.den, h]
theorem OpR.not {T : TypeId} {x : Operand} {b : Bool} (hx : evS sl x = some (.v (.bool b))) (ht : Nat.blt t nt = true) :
    OpR P nt ⟨sl, hp⟩ ⟨some t, .unOp .not T x, ty, pos, af, g⟩ ⟨insOf x (.v (.bool b)), [], [], some t, .v (.bool (!b)), []⟩ ⟨(t, .v (.bool (!b))) :: sl, hp⟩ :=
  OpR.unv hx ht fun w => by simp [Op.unary]
theorem OpR.neg64 {T : TypeId} {x : Operand} {a : Int} (hx : evS sl x = some (.v (.int .i64 a))) (ht : Nat.blt t nt = true) (h1 : -9223372036854775807 ≤ a) (h2 : a ≤ 9223372036854775807) :
    OpR P nt ⟨sl, hp⟩ ⟨some t, .unOp .neg T x, ty, pos, af, g⟩ ⟨insOf x (.v (.int .i64 a)), [], [], some t, .v (.int .i64 (-a)), []⟩ ⟨(t, .v (.int .i64 (-a))) :: sl, hp⟩ :=
  OpR.unv hx ht fun w => by simp [Op.unary, Op.intArith]; exact wrap64_in (by omega) (by omega)
theorem OpR.convK {S T : TypeId} {x : Operand} {ks k : IntKind} {a r : Int} (hs : TyInt P S ks) (hk : TyInt P T k) (hx : evS sl x = some (.v (.int ks a))) (ht : Nat.blt t nt = true) (hr : k.wrap a = r) :
    OpR P nt ⟨sl, hp⟩ ⟨some t, .convert S T x, ty, pos, af, g⟩ ⟨insOf x (.v (.int ks a)), [], [], some t, .v (.int k r), []⟩ ⟨(t, .v (.int k r)) :: sl, hp⟩ :=
  OpR.q1 rfl ht hx (fun _ h => by simp [SV.ids] at h) fun β a w h1 => by
    subst hr
    simp [execOp, h1, SV.den, convert, run_underlying hs.h, run_underlying hk.h, Conv.intToInt]
theorem OpR.conv64 {S T : TypeId} {x : Operand} {ks : IntKind} {a : Int} [hs : TyInt P S ks] [hk : TyInt P T .i64] (hx : evS sl x = some (.v (.int ks a))) (ht : Nat.blt t nt = true) (h1 : -9223372036854775808 ≤ a) (h2 : a ≤ 9223372036854775807) :
    OpR P nt ⟨sl, hp⟩ ⟨some t, .convert S T x, ty, pos, af, g⟩ ⟨insOf x (.v (.int ks a)), [], [], some t, .v (.int .i64 a), []⟩ ⟨(t, .v (.int .i64 a)) :: sl, hp⟩ :=
  OpR.convK hs hk hx ht (wrap64_in h1 h2)
theorem OpR.makeFunc0 {f : FuncId} (ht : Nat.blt t nt = true) :
    OpR P nt ⟨sl, hp⟩ ⟨some t, .makeFunc (.func f) #[] #[], ty, pos, af, g⟩ ⟨insOf (.const undef) (.v undef), [], [], some t, .fn f [], []⟩ ⟨(t, .fn f []) :: sl, hp⟩ :=
  OpR.q1 (x := .const undef) (X := .v undef) rfl ht rfl (fun _ h => by simp [SV.ids, idsL] at h) fun β a w h1 => by simp [execOp, SV.den, denL, Instr.makeFunc]
theorem OpR.makeFunc1 {f : FuncId} {x : Operand} {X : SV} (hx : evS sl x = some X) (ht : Nat.blt t nt = true) :
    OpR P nt ⟨sl, hp⟩ ⟨some t, .makeFunc (.func f) #[] #[x], ty, pos, af, g⟩ ⟨insOf x X, [], [], some t, .fn f [X], []⟩ ⟨(t, .fn f [X]) :: sl, hp⟩ :=
  OpR.q1 rfl ht hx (fun _ h => by simpa [SV.ids, idsL] using h) fun β a w h1 => by simp [execOp, SV.den, denL, Instr.makeFunc, h1]
theorem OpR.makeFunc2 {f : FuncId} {x y : Operand} {X Y : SV} (hx : evS sl x = some X) (hy : evS sl y = some Y) (ht : Nat.blt t nt = true) :
    OpR P nt ⟨sl, hp⟩ ⟨some t, .makeFunc (.func f) #[] #[x, y], ty, pos, af, g⟩ ⟨insOf x X ++ insOf y Y, [], [], some t, .fn f [X, Y], []⟩ ⟨(t, .fn f [X, Y]) :: sl, hp⟩ :=
  OpR.q2 rfl ht hx hy (fun _ h => by simpa [SV.ids, idsL] using h) fun β a w h1 h2 => by simp [execOp, SV.den, denL, Instr.makeFunc, h1, h2]
theorem OpR.nilCheckP {x : Operand} {id off : Nat} (hx : evS sl x = some (.p id off)) (ht : Nat.blt t nt = true) :
    OpR P nt ⟨sl, hp⟩ ⟨some t, .nilCheck x, ty, pos, af, g⟩ ⟨insOf x (.p id off), [], [], some t, .p id off, []⟩ ⟨(t, .p id off) :: sl, hp⟩ :=
  OpR.q1 rfl ht hx (fun _ h => h) fun β a w h1 => by simp [execOp, h1, SV.den]
theorem OpR.nilCheckF {x : Operand} {f : FuncId} {cap : List SV} (hx : evS sl x = some (.fn f cap)) (ht : Nat.blt t nt = true) :
    OpR P nt ⟨sl, hp⟩ ⟨some t, .nilCheck x, ty, pos, af, g⟩ ⟨insOf x (.fn f cap), [], [], some t, .fn f cap, []⟩ ⟨(t, .fn f cap) :: sl, hp⟩ :=
  OpR.q1 rfl ht hx (fun _ h => h) fun β a w h1 => by simp [execOp, h1, SV.den]
theorem OpR.extract {x : Operand} {l : List SV} {i : Nat} {V : SV} (hx : evS sl x = some (.tup l)) (hi : l[i]? = some V) (ht : Nat.blt t nt = true) :
    OpR P nt ⟨sl, hp⟩ ⟨some t, .extract x i, ty, pos, af, g⟩ ⟨insOf x (.tup l), [], [], some t, V, []⟩ ⟨(t, V) :: sl, hp⟩ :=
  OpR.q1 rfl ht hx (fun j hj => by simp only [SV.ids]; exact mem_idsL.2 ⟨V, List.mem_of_getElem? hi, hj⟩) fun β a w h1 => by
    have : (denL β l)[i]? = some (V.den β) := by rw [denL_eq, List.getElem?_map, hi]; rfl
    simp [execOp, h1, SV.den, Instr.extract, this]
theorem idsL_sub {l : List SV} {i n : Nat} {j : Nat} (h : j ∈ idsL ((l.drop i).take n)) : j ∈ idsL l := by
  obtain ⟨x, hx, hj⟩ := mem_idsL.1 h
  exact mem_idsL.2 ⟨x, List.mem_of_mem_drop (List.mem_of_mem_take hx), hj⟩
theorem denL_part (β : Nat → BI) (l : List SV) (i n : Nat) : (denL β l).toArray.extract i (i + n) = (denL β ((l.drop i).take n)).toArray := by
  apply Array.ext'
  rw [denL_eq, denL_eq]
  simp [List.map_take, List.map_drop]
theorem OpR.field1 {T : TypeId} {x : Operand} {i off n : Nat} {ft : TypeId} {l : List SV} {V : SV} [hf : TyField P T i off ft false n] (hx : evS sl x = some (.agg l)) (hi : l[off]? = some V) (ht : Nat.blt t nt = true) :
    OpR P nt ⟨sl, hp⟩ ⟨some t, .field T x i, ty, pos, af, g⟩ ⟨insOf x (.agg l), [], [], some t, V, []⟩ ⟨(t, V) :: sl, hp⟩ :=
  OpR.q1 rfl ht hx (fun j hj => by simp only [SV.ids]; exact mem_idsL.2 ⟨V, List.mem_of_getElem? hi, hj⟩) fun β a w h1 => by
    have h2 : (denL β l)[off]? = some (V.den β) := by rw [denL_eq, List.getElem?_map, hi]; rfl
    have h3 := hf.h
    unfold fieldOf at h3
    split at h3
    · rename_i fs hu
      cases hfi : fs[i]? with
      | none => rw [hfi] at h3; cases h3
      | some f =>
        rw [hfi] at h3
        simp at h3
        simp [execOp, h1, SV.den, Instr.field, run_underlying hu, hfi, asAgg, part, h3.1, h3.2, run_isAgg' hf.ha, h2]
    · cases h3
theorem OpR.fieldA {T : TypeId} {x : Operand} {i off n : Nat} {ft : TypeId} {l : List SV} [hf : TyField P T i off ft true n] (hx : evS sl x = some (.agg l)) (ht : Nat.blt t nt = true) :
    OpR P nt ⟨sl, hp⟩ ⟨some t, .field T x i, ty, pos, af, g⟩ ⟨insOf x (.agg l), [], [], some t, .agg ((l.drop off).take n), []⟩ ⟨(t, .agg ((l.drop off).take n)) :: sl, hp⟩ :=
  OpR.q1 rfl ht hx (fun j hj => by simp only [SV.ids] at hj ⊢; exact idsL_sub hj) fun β a w h1 => by
    have h3 := hf.h
    unfold fieldOf at h3
    split at h3
    · rename_i fs hu
      cases hfi : fs[i]? with
      | none => rw [hfi] at h3; cases h3
      | some f =>
        rw [hfi] at h3
        simp at h3
        have h4 := denL_part β l off n
        simp only [execOp, h1, SV.den, Instr.field, Sem.run_bind, run_underlying hu, Result.andThen_ok, hfi, asAgg, Sem.run_pure, part, h3.1, h3.2, run_isAgg' hf.ha, run_sizeOf' hf.hn, if_true, h4]
    · cases h3
theorem OpR.fieldAddrP {T : TypeId} {x : Operand} {i foff n : Nat} {ft : TypeId} {b : Bool} {id off : Nat} [hf : TyField P T i foff ft b n] (hx : evS sl x = some (.p id off)) (ht : Nat.blt t nt = true) :
    OpR P nt ⟨sl, hp⟩ ⟨some t, .fieldAddr T x i, ty, pos, af, g⟩ ⟨insOf x (.p id off), [], [], some t, .p id (off + foff), []⟩ ⟨(t, .p id (off + foff)) :: sl, hp⟩ :=
  OpR.q1 rfl ht hx (fun j hj => hj) fun β a w h1 => by
    have h3 := hf.h
    unfold fieldOf at h3
    split at h3
    · rename_i fs hu
      cases hfi : fs[i]? with
      | none => rw [hfi] at h3; cases h3
      | some f =>
        rw [hfi] at h3
        simp at h3
        simp [execOp, h1, SV.den, Instr.fieldAt, run_underlying hu, hfi, Instr.sureAddr, fieldPlace, h3.1, h3.2, run_sizeOf' hf.hn, hf.pos, add_lit]
    · cases h3
theorem OpR.fieldAddrE {T : TypeId} {x : Operand} {i foff n : Nat} {ft : TypeId} {b : Bool} {id size k j : Nat} [hf : TyField P T i foff ft b n] (hx : evS sl x = some (.e id size k j)) (ht : Nat.blt t nt = true) :
    OpR P nt ⟨sl, hp⟩ ⟨some t, .fieldAddr T x i, ty, pos, af, g⟩ ⟨insOf x (.e id size k j), [], [], some t, .e id size k (j + foff), []⟩ ⟨(t, .e id size k (j + foff)) :: sl, hp⟩ :=
  OpR.q1 rfl ht hx (fun j hj => hj) fun β a w h1 => by
    have h3 := hf.h
    unfold fieldOf at h3
    split at h3
    · rename_i fs hu
      cases hfi : fs[i]? with
      | none => rw [hfi] at h3; cases h3
      | some f =>
        rw [hfi] at h3
        simp at h3
        simp [execOp, h1, SV.den, Instr.fieldAt, run_underlying hu, hfi, Instr.sureAddr, fieldPlace, h3.1, h3.2, run_sizeOf' hf.hn, hf.pos, add_lit, Nat.add_assoc]
    · cases h3
theorem OpR.len {T : TypeId} {x : Operand} {id n : Nat} {e sz : Nat} [hT : TySlice P T e sz] (hx : evS sl x = some (.a id n)) (ht : Nat.blt t nt = true) :
    OpR P nt ⟨sl, hp⟩ ⟨some t, .call { callee := .builtin .len, args := #[x], argTypes := #[T] }, ty, pos, af, g⟩ ⟨insOf x (.a id n), [], [], some t, .v (.int .i64 (n : Int)), []⟩ ⟨(t, .v (.int .i64 (n : Int))) :: sl, hp⟩ :=
  OpR.q1 rfl ht hx (fun j hj => by simp [SV.ids] at hj) fun β a w h1 => by
    simp [execOp, resolve, invoke, builtin, h1, SV.den, Builtin.len_, run_underlying hT.h, goInt]
theorem OpR.lenNil {T : TypeId} {x : Operand} {e sz : Nat} [hT : TySlice P T e sz] (hx : evS sl x = some (.v (.slice none 0 0))) (ht : Nat.blt t nt = true) :
    OpR P nt ⟨sl, hp⟩ ⟨some t, .call { callee := .builtin .len, args := #[x], argTypes := #[T] }, ty, pos, af, g⟩ ⟨insOf x (.v (.slice none 0 0)), [], [], some t, .v (.int .i64 0), []⟩ ⟨(t, .v (.int .i64 0)) :: sl, hp⟩ :=
  OpR.q1 rfl ht hx (fun j hj => by simp [SV.ids] at hj) fun β a w h1 => by
    simp [execOp, resolve, invoke, builtin, h1, SV.den, Builtin.len_, run_underlying hT.h, goInt]
theorem OpR.min2 {x y : Operand} {T T' : TypeId} {k : IntKind} {a b : Int} (hx : evS sl x = some (.v (.int k a))) (hy : evS sl y = some (.v (.int k b))) (ht : Nat.blt t nt = true) :
    OpR P nt ⟨sl, hp⟩ ⟨some t, .call { callee := .builtin .min, args := #[x, y], argTypes := #[T, T'] }, ty, pos, af, g⟩ ⟨insOf x (.v (.int k a)) ++ insOf y (.v (.int k b)), [], [], some t, .v (.int k (min a b)), []⟩ ⟨(t, .v (.int k (min a b))) :: sl, hp⟩ :=
  OpR.q2 rfl ht hx hy (fun j hj => by simp [SV.ids] at hj) fun β a' w h1 h2 => by
    have : (if b < a then b else a) = min a b := by split <;> omega
    simp [execOp, resolve, invoke, builtin, h1, h2, SV.den, Builtin.min_, Builtin.min2, this]
theorem OpR.max2 {x y : Operand} {T T' : TypeId} {k : IntKind} {a b : Int} (hx : evS sl x = some (.v (.int k a))) (hy : evS sl y = some (.v (.int k b))) (ht : Nat.blt t nt = true) :
    OpR P nt ⟨sl, hp⟩ ⟨some t, .call { callee := .builtin .max, args := #[x, y], argTypes := #[T, T'] }, ty, pos, af, g⟩ ⟨insOf x (.v (.int k a)) ++ insOf y (.v (.int k b)), [], [], some t, .v (.int k (max a b)), []⟩ ⟨(t, .v (.int k (max a b))) :: sl, hp⟩ :=
  OpR.q2 rfl ht hx hy (fun j hj => by simp [SV.ids] at hj) fun β a' w h1 h2 => by
    have : (if b > a then b else a) = max a b := by split <;> omega
    simp [execOp, resolve, invoke, builtin, h1, h2, SV.den, Builtin.max_, Builtin.max2, this]
def cmpVal (op : BinOp) (a b : Int) : Option Bool := match op with
  | .lss => some (decide (a < b))
  | .leq => some (decide (a ≤ b))
  | .gtr => some (decide (b < a))
  | .geq => some (decide (b ≤ a))
  | .eql => some (decide (a = b))
  | .neq => some (decide (a ≠ b))
  | _ => none
def arVal (op : BinOp) (a b : Int) : Option Int := match op with
  | .add => some (a + b)
  | .sub => some (a - b)
  | .mul => some (a * b)
  | _ => none
theorem OpR.cmp {op : BinOp} {T T' : TypeId} {x y : Operand} {k : IntKind} {a b : Int} {v : Bool} (hv : cmpVal op a b = some v) (hx : evS sl x = some (.v (.int k a))) (hy : evS sl y = some (.v (.int k b))) (ht : Nat.blt t nt = true) :
    OpR P nt ⟨sl, hp⟩ ⟨some t, .binOp op T x y T', ty, pos, af, g⟩ ⟨insOf x (.v (.int k a)) ++ insOf y (.v (.int k b)), [], [], some t, .v (.bool v), []⟩ ⟨(t, .v (.bool v)) :: sl, hp⟩ := by
  cases op <;> simp only [cmpVal, Option.some.injEq] at hv <;> first
    | (subst hv; first | exact OpR.lss hx hy ht | exact OpR.leq hx hy ht | exact OpR.gtr hx hy ht | exact OpR.geq hx hy ht | exact OpR.eql hx hy ht | exact OpR.neq hx hy ht)
    | cases hv
theorem OpR.ar64 {op : BinOp} {T T' : TypeId} {x y : Operand} {a b v : Int} (hv : arVal op a b = some v) (hx : evS sl x = some (.v (.int .i64 a))) (hy : evS sl y = some (.v (.int .i64 b))) (ht : Nat.blt t nt = true) (h1 : -9223372036854775808 ≤ v) (h2 : v ≤ 9223372036854775807) :
    OpR P nt ⟨sl, hp⟩ ⟨some t, .binOp op T x y T', ty, pos, af, g⟩ ⟨insOf x (.v (.int .i64 a)) ++ insOf y (.v (.int .i64 b)), [], [], some t, .v (.int .i64 v), []⟩ ⟨(t, .v (.int .i64 v)) :: sl, hp⟩ := by
  cases op <;> simp only [arVal, Option.some.injEq] at hv <;> first
    | (subst hv; first | exact OpR.add64 hx hy ht h1 h2 | exact OpR.sub64 hx hy ht h1 h2 | exact OpR.mul64 hx hy ht h1 h2)
    | cases hv
/-- Two values of any form, put together. -/
theorem OpR.binG {op : BinOp} {T T' : TypeId} {x y : Operand} {X Y : SV} {V : Value} (hx : evS sl x = some X) (hy : evS sl y = some Y) (ht : Nat.blt t nt = true)
    (h : ∀ (β : Nat → BI) (w : World), (do eqGuard op T x y (X.den β) (Y.den β); binOp op T (X.den β) (Y.den β) : Sem Value).run P w = .ok V w) :
    OpR P nt ⟨sl, hp⟩ ⟨some t, .binOp op T x y T', ty, pos, af, g⟩ ⟨insOf x X ++ insOf y Y, [], [], some t, .v V, []⟩ ⟨(t, .v V) :: sl, hp⟩ :=
  OpR.q2 rfl ht hx hy (fun _ h => by simp [SV.ids] at h) fun β a w h1 h2 => by
    have := h β w
    simp only [Sem.run_bind] at this
    simp only [execOp, h1, h2, Sem.run_bind]
    rw [this]
    rfl
end
end Go.Proofs.Ytiboffhdabeiiaa

/-
  The symbolic state: the operations on memory. Plain lemmas over any program.
-/
namespace Go.Proofs.Ytiboffhdabeiiaa
open Go Go.RowKit

/-- A row of elements, whoever's. -/
class RowC {α : outParam Type} (c : Chunk) (E : outParam (Enc α)) (l : outParam (List α)) : Prop where
  h : c = .ro E l ∨ c = .mt E l ∨ ∃ e, c = .own e E l
instance {α : Type} (E : Enc α) (l : List α) : RowC (.ro E l) E l := ⟨.inl rfl⟩
instance {α : Type} (E : Enc α) (l : List α) : RowC (.mt E l) E l := ⟨.inr (.inl rfl)⟩
instance {α : Type} (e : TypeId) (E : Enc α) (l : List α) : RowC (.own e E l) E l := ⟨.inr (.inr ⟨e, rfl⟩)⟩
/-- A row that may be written, and what it is with other elements. -/
class WRow {α : outParam Type} (c : Chunk) (E : outParam (Enc α)) (l : outParam (List α)) (mk : outParam (List α → Chunk)) : Prop where
  h : (c = .mt E l ∧ mk = .mt E) ∨ ∃ e, c = .own e E l ∧ mk = .own e E
instance {α : Type} (E : Enc α) (l : List α) : WRow (.mt E l) E l (.mt E) := ⟨.inl ⟨rfl, rfl⟩⟩
instance {α : Type} (e : TypeId) (E : Enc α) (l : List α) : WRow (.own e E l) E l (.own e E) := ⟨.inr ⟨e, rfl, rfl⟩⟩

class TyElem (P : Program) (e : TypeId) {α : outParam Type} (E : outParam (Enc α)) (bytes : outParam Nat) : Prop where
  hi : (P.info? e).map (fun i => (i.size, i.bytes)) = some (E.size, bytes)
  hz : ((P.info? e).bind (·.zero)).map (fun z => z.cells.toList) = some (E.enc E.zero)
class TyZero (P : Program) (T : TypeId) (zs : outParam (List SV)) : Prop where
  h : ∀ β, ((P.info? T).bind (·.zero)).map (fun z => z.cells) = some (denL β zs).toArray

theorem own_read {w : World} {base n cap size : Nat} {e : TypeId} {b : BI} {xs : List Value} (h : w.ownsRow base e size (.slice b.ad n cap) n xs) (hO : b.O = 0) (hn : 0 < xs.length) :
    b.nil = false ∧ ∀ (j : Nat) u, xs[j]? = some u → w.cell? ⟨b.B, b.O + j, none⟩ = some u := by
  unfold BI.ad at h
  cases hb : b.nil
  · rw [hb] at h
    refine ⟨rfl, fun j u hu => ?_⟩
    have := h.cells (g := b.B) (by simp [hO, Value.ownBlock]) j u hu
    rwa [add_lit, ← hO] at this
  · rw [hb] at h
    rcases h.2 with hn' | ⟨g, cap, cur, hv, _⟩
    · have := h.1
      rw [hn'.2] at this
      omega
    · simp at hv

theorem own_cap {w : World} {base n cap size : Nat} {e : TypeId} {ad : Option Addr} {xs : List Value} (h : w.ownsRow base e size (.slice ad n cap) n xs) : n ≤ cap := by
  rcases h.2 with ⟨_, h⟩ | ⟨g, cap', cur, hv, _, _, hnc, _⟩
  · omega
  · injection hv with _ _ hv
    omega
theorem RowC.read {F : Fm} {β : Nat → BI} {id : Nat} {w : World} {α : Type} {c : Chunk} {E : Enc α} {l : List α} (h : RowC c E l) (hc : ChOk F β id w c) : RdOk β id w E l := by
  rcases h.h with rfl | rfl | ⟨e, rfl⟩
  · exact hc
  · exact hc.1
  · intro hl
    have h1 := own_read hc.1 hc.2.1 (by rw [flat_len]; exact Nat.mul_pos (List.length_pos_iff.2 hl) E.pos)
    exact ⟨⟨h1.1, own_cap hc.1⟩, h1.2⟩

section
variable {P : Program} {nt : Nat} {o : Oper} {sl : List (Nat × SV)} {hp : List (Nat × Chunk)} {t : Nat}
variable {ty : TypeId} {pos : String} {af : Array Edge} {g : Option (Nat × Bool)}

/-- A look at memory by one operand. -/
theorem OpR.look {x : Operand} {X V : SV} {id : Nat} {c : Chunk} (hd : o.dst = some t) (ht : Nat.blt t nt = true) (hx : evS sl x = some X) (hc : getL hp id = some c) (hids : ∀ i ∈ V.ids, i ∈ X.ids ∨ i ∈ c.ids)
    (h : ∀ (F : Fm) (β : Nat → BI) (a : Act) (w : World), a.eval x = X.den β → ChOk F β id w c → (execOp a.eval o).run P w = .ok (.value (V.den β)) w) :
    OpR P nt ⟨sl, hp⟩ o ⟨insOf x X, [(id, c)], [], some t, V, []⟩ ⟨(t, V) :: sl, hp⟩ := by
  refine ⟨StepOk.quiet hd (by simp [Nat.blt] at ht; omega) ?_ ?_, ⟨insOf_pre (s := ⟨sl, hp⟩) hx, by simpa using hc, by simp⟩, rfl⟩
  · intro s hcl hp hh i hi
    rcases hids i hi with h1 | h1
    · exact ids_of hcl (evC_of hx) hp i h1
    · exact hcl.2 id c (hh (id, c) (by simp)) i h1
  · intro F β a w hp hh
    exact h F β a w (eval_of (evC_of hx) hp) (hh (id, c) (by simp))
theorem OpR.look2 {x y : Operand} {X Y V : SV} {id : Nat} {c : Chunk} (hd : o.dst = some t) (ht : Nat.blt t nt = true) (hx : evS sl x = some X) (hy : evS sl y = some Y) (hc : getL hp id = some c) (hids : ∀ i ∈ V.ids, i ∈ X.ids ∨ i ∈ c.ids)
    (h : ∀ (F : Fm) (β : Nat → BI) (a : Act) (w : World), a.eval x = X.den β → a.eval y = Y.den β → ChOk F β id w c → (execOp a.eval o).run P w = .ok (.value (V.den β)) w) :
    OpR P nt ⟨sl, hp⟩ o ⟨insOf x X ++ insOf y Y, [(id, c)], [], some t, V, []⟩ ⟨(t, V) :: sl, hp⟩ := by
  refine ⟨StepOk.quiet hd (by simp [Nat.blt] at ht; omega) ?_ ?_, ⟨?_, by simpa using hc, by simp⟩, rfl⟩
  · intro s hcl hp hh i hi
    rcases hids i hi with h1 | h1
    · exact ids_of hcl (evC_of hx) (fun p hp' => hp p (List.mem_append_left _ hp')) i h1
    · exact hcl.2 id c (hh (id, c) (by simp)) i h1
  · intro F β a w hp hh
    exact h F β a w (eval_of (evC_of hx) (fun p hp' => hp p (List.mem_append_left _ hp'))) (eval_of (evC_of hy) (fun p hp' => hp p (List.mem_append_right _ hp'))) (hh (id, c) (by simp))
  · intro p hp'
    rcases List.mem_append.1 hp' with h1 | h1
    · exact insOf_pre (s := ⟨sl, hp⟩) hx p h1
    · exact insOf_pre (s := ⟨sl, hp⟩) hy p h1

theorem OpR.indexAddr {T : TypeId} {x y : Operand} {id n k : Nat} {e size : Nat} {kd : IntKind} {α : Type} {c : Chunk} {E : Enc α} {l : List α} [hT : TySlice P T e size] (hx : evS sl x = some (.a id n)) (hy : evS sl y = some (.v (.int kd ((k : Nat) : Int)))) (hc : getL hp id = some c) [hr : RowC c E l]
    (hk : k < n) (hl : k < l.length) (ht : Nat.blt t nt = true) :
    OpR P nt ⟨sl, hp⟩ ⟨some t, .indexAddr T x y, ty, pos, af, g⟩ ⟨insOf x (.a id n) ++ insOf y (.v (.int kd ((k : Nat) : Int))), [(id, c)], [], some t, .e id size k 0, []⟩ ⟨(t, .e id size k 0) :: sl, hp⟩ := by
  refine OpR.look2 rfl ht hx hy hc (fun i hi => .inl hi) fun F β a w h1 h2 h3 => ?_
  have h4 := (hr.read h3 (by intro e; rw [e] at hl; simp at hl)).1.1
  simp [execOp, h1, h2, SV.den, Instr.indexAt, asIntOf, run_underlying hT.h, BI.dn, h4, hk, run_sizeOf' hT.hn, add_lit]
theorem OpR.indexAddrI {T : TypeId} {x y : Operand} {id n : Nat} {i : Int} {e size : Nat} {kd : IntKind} {α : Type} {c : Chunk} {E : Enc α} {l : List α} [hT : TySlice P T e size] (hx : evS sl x = some (.a id n)) (hy : evS sl y = some (.v (.int kd i))) (hc : getL hp id = some c) [hr : RowC c E l]
    (h0 : 0 ≤ i) (hk : i.toNat < n) (hl : i.toNat < l.length) (ht : Nat.blt t nt = true) :
    OpR P nt ⟨sl, hp⟩ ⟨some t, .indexAddr T x y, ty, pos, af, g⟩ ⟨insOf x (.a id n) ++ insOf y (.v (.int kd i)), [(id, c)], [], some t, .e id size i.toNat 0, []⟩ ⟨(t, .e id size i.toNat 0) :: sl, hp⟩ := by
  obtain ⟨k, rfl⟩ : ∃ k : Nat, i = (k : Int) := ⟨i.toNat, by omega⟩
  exact OpR.indexAddr hx hy hc (by simpa using hk) (by simpa using hl) ht

theorem OpR.loadE {T : TypeId} {x : Operand} {id size k j n : Nat} {α : Type} {c : Chunk} {E : Enc α} {l : List α} {y : α} {u : Value} [hT : TyShape P T false n] (hx : evS sl x = some (.e id size k j)) (hc : getL hp id = some c) [hr : RowC c E l]
    (hs : E.size = size) (hk : l[k]? = some y) (hu : (E.enc y)[j]? = some u) (ht : Nat.blt t nt = true) :
    OpR P nt ⟨sl, hp⟩ ⟨some t, .load T x, ty, pos, af, g⟩ ⟨insOf x (.e id size k j), [(id, c)], [], some t, .v u, []⟩ ⟨(t, .v u) :: sl, hp⟩ := by
  refine OpR.look rfl ht hx hc (fun i hi => by simp [SV.ids] at hi) fun F β a w h1 h3 => ?_
  subst hs
  obtain ⟨_, h5⟩ := hr.read h3 (by rintro rfl; simp at hk)
  have h6 := h5 _ u (flat_at E hk hu)
  simp [execOp, h1, SV.den, Instr.loadAt, Instr.sureAddr, loadVar, run_isAgg' hT.h, h6]
theorem denL_vals (β : Nat → BI) (l : List Value) : denL β (l.map SV.v) = l := by
  induction l with
  | nil => rfl
  | cons x l ih => simp [denL, SV.den, ih]
theorem idsL_vals (l : List Value) : idsL (l.map SV.v) = [] := by
  induction l with
  | nil => rfl
  | cons x l ih => simp [idsL, SV.ids, ih]
theorem OpR.loadEA {T : TypeId} {x : Operand} {id size k j n : Nat} {α : Type} {c : Chunk} {E : Enc α} {l : List α} {y : α} [hT : TyShape P T true n] (hx : evS sl x = some (.e id size k j)) (hc : getL hp id = some c) [hr : RowC c E l]
    (hs : E.size = size) (hk : l[k]? = some y) (hu : Nat.ble (j + n) size = true) (ht : Nat.blt t nt = true) :
    OpR P nt ⟨sl, hp⟩ ⟨some t, .load T x, ty, pos, af, g⟩ ⟨insOf x (.e id size k j), [(id, c)], [], some t, .agg ((((E.enc y).drop j).take n).map SV.v), []⟩ ⟨(t, .agg ((((E.enc y).drop j).take n).map SV.v)) :: sl, hp⟩ := by
  refine OpR.look rfl ht hx hc (fun i hi => by simp only [SV.ids, idsL_vals] at hi; simp at hi) fun F β a w h1 h3 => ?_
  subst hs
  obtain ⟨_, h5⟩ := hr.read h3 (by rintro rfl; simp at hk)
  have hlen : (((E.enc y).drop j).take n).length = n := by simp [E.len] at hu ⊢; omega
  have h7 := run_loadCells_list (P := P) (w := w) ⟨(β id).B, (β id).O + (k * E.size + j), none⟩ (((E.enc y).drop j).take n) (fun i v hv => by
    have hil : i < n := by have := (List.getElem?_eq_some_iff.1 hv).1; omega
    rw [List.getElem?_take, if_pos hil, List.getElem?_drop] at hv
    have := h5 _ v (flat_at E hk hv)
    rw [add_lit, ← this]
    congr 2
    omega)
  rw [hlen] at h7
  simp only [execOp, h1, SV.den, Instr.loadAt, Instr.sureAddr, loadVar, Sem.run_bind, run_isAgg' hT.h, Result.andThen_ok, Sem.run_pure, if_true, run_sizeOf' hT.hn, h7, denL_vals]
theorem cells_at {F : Fm} {β : Nat → BI} {id : Nat} {w : World} {t : TypeId} {cs : List SV} (h : ChOk F β id w (.cells t cs)) {i : Nat} {X : SV} (hi : cs[i]? = some X) : w.cell? ⟨(β id).B, i, none⟩ = some (X.den β) := by
  rw [cell_of_row w _ i _ t (0, 0) h.2.2.1, denL_eq]
  simp [hi]
theorem OpR.loadP {T : TypeId} {x : Operand} {id off n : Nat} {tt : TypeId} {cs : List SV} {X : SV} [hT : TyShape P T false n] (hx : evS sl x = some (.p id off)) (hc : getL hp id = some (.cells tt cs)) (hu : cs[off]? = some X) (ht : Nat.blt t nt = true) :
    OpR P nt ⟨sl, hp⟩ ⟨some t, .load T x, ty, pos, af, g⟩ ⟨insOf x (.p id off), [(id, .cells tt cs)], [], some t, X, []⟩ ⟨(t, X) :: sl, hp⟩ := by
  refine OpR.look rfl ht hx hc (fun i hi => .inr (mem_idsL.2 ⟨X, List.mem_of_getElem? hu, hi⟩)) fun F β a w h1 h3 => ?_
  have h6 := cells_at h3 hu
  simp [execOp, h1, SV.den, Instr.loadAt, Instr.sureAddr, loadVar, run_isAgg' hT.h, h6]
theorem OpR.loadPA {T : TypeId} {x : Operand} {id off n : Nat} {tt : TypeId} {cs : List SV} [hT : TyShape P T true n] (hx : evS sl x = some (.p id off)) (hc : getL hp id = some (.cells tt cs)) (hu : Nat.ble (off + n) cs.length = true) (ht : Nat.blt t nt = true) :
    OpR P nt ⟨sl, hp⟩ ⟨some t, .load T x, ty, pos, af, g⟩ ⟨insOf x (.p id off), [(id, .cells tt cs)], [], some t, .agg ((cs.drop off).take n), []⟩ ⟨(t, .agg ((cs.drop off).take n)) :: sl, hp⟩ := by
  refine OpR.look rfl ht hx hc (fun i hi => .inr (by simp only [SV.ids, Chunk.ids] at hi ⊢; exact idsL_sub hi)) fun F β a w h1 h3 => ?_
  have hlen : (denL β ((cs.drop off).take n)).length = n := by rw [denL_len]; simp at hu ⊢; omega
  have h7 := run_loadCells_list (P := P) (w := w) ⟨(β id).B, off, none⟩ (denL β ((cs.drop off).take n)) (fun i v hv => by
    have hil : i < n := by have := (List.getElem?_eq_some_iff.1 hv).1; omega
    rw [denL_eq, List.getElem?_map, List.getElem?_take, if_pos hil, List.getElem?_drop] at hv
    cases hx : cs[off + i]? with
    | none => rw [hx] at hv; cases hv
    | some X =>
      rw [hx] at hv
      injection hv with hv
      rw [add_lit, ← hv]
      exact cells_at h3 hx)
  rw [hlen] at h7
  simp only [execOp, h1, SV.den, Instr.loadAt, Instr.sureAddr, loadVar, Sem.run_bind, run_isAgg' hT.h, Result.andThen_ok, Sem.run_pure, if_true, run_sizeOf' hT.hn, h7]

/-! ### New names -/
def noBI : BI := ⟨true, 0, 0, 0, none, []⟩
theorem fr_alloc (w : World) (o : Obj) : Fr (fun _ => False) w (w.alloc o) := (Fr.refl _ _).alloc _

/-- An operation that makes one block, and gives its address. -/
theorem OpR.make {ins : List (Nat × SV)} {V : SV} {c : Chunk} (hd : o.dst = some t) (ht : Nat.blt t nt = true) (hf : getL hp t = none) (hpre : ∀ p ∈ ins, getL sl p.1 = some p.2)
    (hV : ∀ i ∈ V.ids, i = t)
    (h : ∀ (F : Fm) (β : Nat → BI) (s : St) (a : Act) (w : World), SatB F nt β s a w → (∀ p ∈ ins, getL s.sl p.1 = some p.2) → getL s.hp t = none → (∀ p ∈ ins, a.tmps[p.1]? = some (p.2.den β)) →
      ∃ b w', (execOp a.eval o).run P w = .ok (.value (V.den (upd β t b))) w' ∧ Fr (fun _ => False) w w' ∧ ChOk F (upd β t b) t w' c ∧ (∀ g, Bl (upd β t b) t c g → w.heap.size ≤ g) ∧ ∀ j ∈ c.ids, (getL s.hp j).isSome = true) :
    OpR P nt ⟨sl, hp⟩ o ⟨ins, [], [t], some t, V, [(t, c)]⟩ ⟨(t, V) :: sl, (t, c) :: hp⟩ := by
  refine ⟨⟨hd.symm, fun F s a w hs hp => ?_⟩, ⟨hpre, by simp, by simpa using hf⟩, rfl⟩
  obtain ⟨β, hs⟩ := hs
  obtain ⟨p1, _, p3⟩ := hp
  have hn := p3 t (by simp)
  obtain ⟨b, w', hrun, hfr, hok, hbl, hcl⟩ := h F β s a w hs p1 hn (fun p hp => hs.2.2.1 _ _ (p1 p hp))
  refine Oper.wp_ok hrun ?_
  rw [hd]
  have h1 := hs.new t c b hn hfr hok hbl hcl
  have h2 := h1.put (t := t) (x := V) (by simp [Nat.blt] at ht; omega) (fun i hi => by rw [hV i hi]; simp [getL_cons])
  exact ⟨_, h2⟩

theorem newCells_ok {F : Fm} {β : Nat → BI} {s : St} {a : Act} {w : World} {T : TypeId} {cs : List SV} (hs : SatB F nt β s a w) (hn : getL s.hp t = none) (hcl : ∀ j ∈ idsL cs, (getL s.hp j).isSome = true) :
    ChOk F (upd β t ⟨false, w.heap.size, 0, 0, none, []⟩) t (w.alloc (.cells (denL β cs).toArray T)) (.cells T cs) := by
  refine ⟨by rw [upd_same], by rw [upd_same], ?_, ?_⟩
  · rw [upd_same, upd_denL hn hcl]
    exact heap_alloc_new w _
  · rw [upd_same]
    exact .inl hs.2.2.2.2.2.size
theorem newCells_bl {β : Nat → BI} {w : World} {T : TypeId} {cs : List SV} {cap : Nat} {g : Nat} (h : Bl (upd β t ⟨false, w.heap.size, 0, cap, none, []⟩) t (.cells T cs) g) : w.heap.size ≤ g := by
  have : g = w.heap.size := by simpa [Bl, Wr, upd_same] using h
  omega

theorem OpR.alloc {T : TypeId} {zs : List SV} [hz : TyZero P T zs] (ht : Nat.blt t nt = true) (hf : getL hp t = none) (hi : idsL zs = []) :
    OpR P nt ⟨sl, hp⟩ ⟨some t, .alloc T, ty, pos, af, g⟩ ⟨[], [], [t], some t, .p t 0, [(t, .cells T zs)]⟩ ⟨(t, .p t 0) :: sl, (t, .cells T zs) :: hp⟩ := by
  refine OpR.make rfl ht hf (by simp) (fun i hi => by simpa [SV.ids] using hi) fun F β s a w hs _ hn _ => ⟨⟨false, w.heap.size, 0, 0, none, []⟩, w.alloc (.cells (denL β zs).toArray T), ?_, fr_alloc _ _, newCells_ok hs hn (by rw [hi]; simp), fun g hg => newCells_bl hg, by simp [Chunk.ids, hi]⟩
  have h2 := hz.h β
  cases hinf : P.info? T with
  | none => rw [hinf] at h2; cases h2
  | some i =>
    rw [hinf] at h2
    cases hzz : i.zero with
    | none => simp [hzz] at h2
    | some z =>
      simp [hzz] at h2
      simp [execOp, Instr.alloc, zeroValue, typeInfo, hinf, hzz, newVar, newRow, h2, SV.den, upd_same]
def SV.one : SV → Bool
  | .v (.agg _) => false
  | .v (.tuple _) => false
  | .agg _ => false
  | .tup _ => false
  | _ => true
theorem SV.one_cells {X : SV} (h : X.one = true) (β : Nat → BI) : (X.den β).cells = (denL β [X]).toArray := by
  cases X with
  | v x => cases x <;> first | rfl | (simp [SV.one] at h)
  | p _ _ => rfl
  | e _ _ _ _ => rfl
  | a _ _ => rfl
  | fn _ _ => rfl
  | mp _ => rfl
  | ip _ _ _ => rfl
  | yl _ => rfl
  | agg _ => simp [SV.one] at h
  | tup _ => simp [SV.one] at h
theorem SV.one_cell' {X : SV} (h : X.one = true) (β : Nat → BI) : (X.den β).oneCell' = true := by
  cases X with
  | v x => cases x <;> first | rfl | (simp [SV.one] at h)
  | p _ _ => rfl
  | e _ _ _ _ => rfl
  | a _ _ => rfl
  | fn _ _ => rfl
  | mp _ => rfl
  | ip _ _ _ => rfl
  | yl _ => rfl
  | agg _ => simp [SV.one] at h
  | tup _ => simp [SV.one] at h
def SV.cellsS : SV → List SV
  | .agg l => l
  | X => [X]
def SV.flatOk : SV → Bool
  | .agg l => l.all SV.one
  | X => X.one
theorem SV.cells_den {X : SV} (h : X.flatOk = true) (β : Nat → BI) : (X.den β).cells = (denL β X.cellsS).toArray := by
  cases X with
  | agg l => rfl
  | v x => exact SV.one_cells (X := .v x) h β
  | p _ _ => rfl
  | e _ _ _ _ => rfl
  | a _ _ => rfl
  | fn _ _ => rfl
  | mp _ => rfl
  | ip _ _ _ => rfl
  | yl _ => rfl
  | tup _ => simp [SV.flatOk, SV.one] at h
theorem SV.cells_ids {X : SV} (h : X.flatOk = true) : idsL X.cellsS = X.ids := by
  cases X <;> first | rfl | simp [SV.cellsS, idsL] 
theorem SV.cells_one {X : SV} (h : X.flatOk = true) (β : Nat → BI) : ∀ u ∈ denL β X.cellsS, u.oneCell' = true := by
  intro u hu
  rw [denL_eq] at hu
  obtain ⟨y, hy, rfl⟩ := List.mem_map.1 hu
  refine SV.one_cell' ?_ β
  cases X with
  | agg l => exact (List.all_eq_true.1 h) y hy
  | _ =>
    simp [SV.cellsS] at hy
    subst hy
    exact h
theorem OpR.box {T : TypeId} {x : Operand} {X : SV} (hx : evS sl x = some X) (hX : X.flatOk = true) (ht : Nat.blt t nt = true) (hf : getL hp t = none) :
    OpR P nt ⟨sl, hp⟩ ⟨some t, .box T x, ty, pos, af, g⟩ ⟨insOf x X, [], [t], some t, .p t 0, [(t, .cells T X.cellsS)]⟩ ⟨(t, .p t 0) :: sl, (t, .cells T X.cellsS) :: hp⟩ := by
  refine OpR.make rfl ht hf (insOf_pre (s := ⟨sl, hp⟩) hx) (fun i hi => by simpa [SV.ids] using hi) fun F β s a w hs hp1 hn hp => ?_
  have hcl : ∀ j ∈ idsL X.cellsS, (getL s.hp j).isSome = true := fun j hj => by
    rw [SV.cells_ids hX] at hj
    exact ids_of hs.2.2.2.2.1 (evC_of hx) hp1 j hj
  refine ⟨⟨false, w.heap.size, 0, 0, none, []⟩, w.alloc (.cells (denL β X.cellsS).toArray T), ?_, fr_alloc _ _, newCells_ok hs hn hcl, fun g hg => newCells_bl hg, hcl⟩
  simp [execOp, Instr.box, eval_of (evC_of hx) hp, newVar, newRow, SV.cells_den hX, SV.den, upd_same]
end
end Go.Proofs.Ytiboffhdabeiiaa

/-
  The symbolic state: stores, literals, make, append. Plain lemmas over any program.
-/
namespace Go.Proofs.Ytiboffhdabeiiaa
open Go Go.RowKit

theorem setCells_fr (b : Nat) : ∀ (vs : List Value) (o : Nat) (w : World), Fr (fun g => g = b) w (w.setCells b o vs)
  | [], _, w => Fr.refl _ w
  | v :: r, o, w => ((Fr.refl (fun g => g = b) w).setCell (p := ⟨b, o, none⟩) (.inl rfl) v).trans (setCells_fr b r (o + 1) (w.setCell ⟨b, o, none⟩ v))
theorem setCells_block (b : Nat) (t : TypeId) : ∀ (vs : List Value) (o : Nat) (w : World) (cur : Array Value), w.heap[b]? = some (.cells cur t (0, 0)) → o + vs.length ≤ cur.size →
    ∃ cur', (w.setCells b o vs).heap[b]? = some (.cells cur' t (0, 0)) ∧ cur'.toList = cur.toList.take o ++ (vs ++ cur.toList.drop (o + vs.length))
  | [], o, w, cur, h, _ => ⟨cur, h, by simp⟩
  | v :: r, o, w, cur, h, hl => by
    have h1 : (w.setCell ⟨b, o, none⟩ v).heap[b]? = some (.cells (cur.setIfInBounds o v) t (0, 0)) := by
      simp [World.setCell, Array.getElem?_modify, h]
    obtain ⟨cur', h2, h3⟩ := setCells_block b t r (o + 1) _ _ h1 (by simp at hl ⊢; omega)
    refine ⟨cur', h2, ?_⟩
    rw [h3]
    simp at hl
    rw [Array.toList_setIfInBounds]
    have ho : o < cur.toList.length := by simp; omega
    rw [List.take_set, List.take_add_one, List.getElem?_eq_getElem ho, List.drop_set_of_lt (by omega)]
    simp only [Option.toList_some, List.length_cons, List.cons_append]
    rw [List.set_append_right _ _ (by simp; omega)]
    simp [Nat.add_assoc, Nat.add_comm 1, Nat.min_eq_left (show o ≤ cur.size by omega)]

section
variable {P : Program} {nt : Nat} {o : Oper} {sl : List (Nat × SV)} {hp : List (Nat × Chunk)} {t : Nat}
variable {ty : TypeId} {pos : String} {af : Array Edge} {g : Option (Nat × Bool)}

theorem run_storeAt' {T : TypeId} {b off : Nat} {v : Value} {w : World} (hn : (P.info? T).map (·.size) = some v.cells.size) (hc : ∀ j, j < v.cells.size → (w.cell? ⟨b, off + j, none⟩).isSome = true) (hf : ∀ j, j < v.cells.size → w.frozen? ⟨b, off + j, none⟩ = false)
    (h1 : ∀ u ∈ v.cells.toList, u.oneCell' = true) : (Instr.storeAt T (.pointer (some ⟨b, off, none⟩)) v).run P w = .ok () (w.setCells b off v.cells.toList) := by
  simp only [Instr.storeAt, Instr.sureAddr, storeVar, Sem.run_bind, Sem.run_pure, Result.andThen_ok, run_sizeOf' hn, ne_eq, not_true_eq_false, if_false]
  have := run_storeCells_cells (P := P) b off v.cells.toList 0 w (by simpa using hc) (by simpa using hf) h1
  simpa using this

/-- A store rewrites what lies behind a name. -/
theorem OpR.put {x y : Operand} {X Y : SV} {id : Nat} {c c' : Chunk} (hd : o.dst = none) (hx : evS sl x = some X) (hy : evS sl y = some Y) (hc : getL hp id = some c)
    (hids : ∀ i ∈ c'.ids, i ∈ c.ids ∨ i ∈ Y.ids) (hwr : ∀ β g, Wr β id c' g → Wr β id c g) (hbl : ∀ β g, Bl β id c' g → Bl β id c g)
    (h : ∀ (F : Fm) (β : Nat → BI) (a : Act) (w : World), a.eval x = X.den β → a.eval y = Y.den β → ChOk F β id w c → ∃ w', (execOp a.eval o).run P w = .ok .skip w' ∧ Fr (fun g => Wr β id c g) w w' ∧ ChOk F β id w' c') :
    OpR P nt ⟨sl, hp⟩ o ⟨insOf x X ++ insOf y Y, [(id, c)], [], none, .v undef, [(id, c')]⟩ ⟨sl, (id, c') :: hp⟩ := by
  refine ⟨⟨hd.symm, fun F s a w hs hpre => ?_⟩, ⟨?_, by simpa using hc, by simp⟩, rfl⟩
  · obtain ⟨β, hs⟩ := hs
    obtain ⟨p1, p2, _⟩ := hpre
    have hci := p2 (id, c) (by simp)
    have q : ∀ p ∈ insOf x X ++ insOf y Y, a.tmps[p.1]? = some (p.2.den β) := fun p hp => hs.2.2.1 _ _ (p1 p hp)
    obtain ⟨w', hrun, hfr, hok⟩ := h F β a w (eval_of (evC_of hx) (fun p hp' => q p (List.mem_append_left _ hp'))) (eval_of (evC_of hy) (fun p hp' => q p (List.mem_append_right _ hp'))) (hs.2.2.2.1.1 _ _ hci)
    refine Oper.wp_skip hrun ?_
    rw [hd]
    refine ⟨β, hs.rewrite id c c' hci hfr hok (hwr β) (hbl β) (fun j hj => ?_)⟩
    rcases hids j hj with h1 | h1
    · exact hs.2.2.2.2.1.2 id c hci j h1
    · exact ids_of hs.2.2.2.2.1 (evC_of hy) (fun p hp' => p1 p (List.mem_append_right _ hp')) j h1
  · intro p hp'
    rcases List.mem_append.1 hp' with h1 | h1
    · exact insOf_pre (s := ⟨sl, hp⟩) hx p h1
    · exact insOf_pre (s := ⟨sl, hp⟩) hy p h1

def spliceS (cs : List SV) (off : Nat) (l : List SV) : List SV := cs.take off ++ (l ++ cs.drop (off + l.length))
theorem denL_append (β : Nat → BI) (l m : List SV) : denL β (l ++ m) = denL β l ++ denL β m := by rw [denL_eq, denL_eq, denL_eq, List.map_append]
theorem denL_splice (β : Nat → BI) (cs : List SV) (off : Nat) (l : List SV) : denL β (spliceS cs off l) = (denL β cs).take off ++ (denL β l ++ (denL β cs).drop (off + (denL β l).length)) := by
  unfold spliceS
  rw [denL_append, denL_append, denL_len]
  simp [denL_eq, List.map_take, List.map_drop]
theorem splice_ids {cs l : List SV} {off i : Nat} (h : i ∈ idsL (spliceS cs off l)) : i ∈ idsL cs ∨ i ∈ idsL l := by
  obtain ⟨x, hx, hi⟩ := mem_idsL.1 h
  rcases List.mem_append.1 hx with h1 | h1
  · exact .inl (mem_idsL.2 ⟨x, List.mem_of_mem_take h1, hi⟩)
  · rcases List.mem_append.1 h1 with h1 | h1
    · exact .inr (mem_idsL.2 ⟨x, h1, hi⟩)
    · exact .inl (mem_idsL.2 ⟨x, List.mem_of_mem_drop h1, hi⟩)

theorem storeP_gen {T : TypeId} {x y : Operand} {id off n : Nat} {b : Bool} {tt : TypeId} {cs cs' : List SV} {Y : SV} [hT : TyShape P T b n] (hx : evS sl x = some (.p id off)) (hy : evS sl y = some Y) (hc : getL hp id = some (.cells tt cs))
    (hY : Y.flatOk = true) (hn : Nat.beq Y.cellsS.length n = true) (hl : Nat.ble (off + n) cs.length = true) (hcs : spliceS cs off Y.cellsS = cs') :
    OpR P nt ⟨sl, hp⟩ ⟨none, .store T x y, ty, pos, af, g⟩ ⟨insOf x (.p id off) ++ insOf y Y, [(id, .cells tt cs)], [], none, .v undef, [(id, .cells tt cs')]⟩ ⟨sl, (id, .cells tt cs') :: hp⟩ := by
  subst hcs
  have hn' : Y.cellsS.length = n := Nat.eq_of_beq_eq_true hn
  have hl' : off + n ≤ cs.length := Nat.le_of_ble_eq_true hl
  refine OpR.put rfl hx hy hc (fun i hi => ?_) (fun β g h => h) (fun β g h => h) fun F β a w h1 h2 h3 => ?_
  · rcases splice_ids hi with h | h
    · exact .inl h
    · rw [SV.cells_ids hY] at h
      exact .inr h
  · have hcd := SV.cells_den hY β
    have hsz : (Y.den β).cells.size = n := by rw [hcd]; simp [denL_len, hn']
    obtain ⟨h3a, h3b, h3c, h3d⟩ := h3
    have hrun := run_storeAt' (P := P) (T := T) (b := (β id).B) (off := off) (v := Y.den β) (w := w) (by rw [hsz]; exact hT.hn)
      (fun j hj => by
        rw [cell_of_row w _ _ _ tt (0, 0) h3c]
        have : off + j < (denL β cs).length := by rw [denL_len]; omega
        simp [List.getElem?_eq_getElem this])
      (fun j hj => by simp [World.frozen?, h3c]) (by rw [hcd]; simpa using SV.cells_one hY β)
    refine ⟨w.setCells (β id).B off (Y.den β).cells.toList, ?_, setCells_fr _ _ _ _, ?_⟩
    · simp only [execOp, h1, h2, SV.den, Sem.run_bind, hrun, Result.andThen_ok, Sem.run_pure]
    · obtain ⟨cur', h5, h6⟩ := setCells_block (β id).B tt (Y.den β).cells.toList off w _ h3c (by simp [denL_len, hsz]; omega)
      refine ⟨h3a, h3b, ?_, h3d⟩
      rw [h5]
      congr 2
      apply Array.ext'
      rw [h6, hcd]
      simp [denL_splice]
theorem OpR.storeP {T : TypeId} {x y : Operand} {id off n : Nat} {b : Bool} {tt : TypeId} {cs : List SV} {Y : SV} [hT : TyShape P T b n] (hx : evS sl x = some (.p id off)) (hy : evS sl y = some Y) (hc : getL hp id = some (.cells tt cs))
    (hY : Y.flatOk = true) (hn : Nat.beq Y.cellsS.length n = true) (hl : Nat.ble (off + n) cs.length = true) :
    OpR P nt ⟨sl, hp⟩ ⟨none, .store T x y, ty, pos, af, g⟩ ⟨insOf x (.p id off) ++ insOf y Y, [(id, .cells tt cs)], [], none, .v undef, [(id, .cells tt (spliceS cs off Y.cellsS))]⟩ ⟨sl, (id, .cells tt (spliceS cs off Y.cellsS)) :: hp⟩ :=
  storeP_gen hx hy hc hY hn hl rfl

/-- A value's cells, where no name stands in them. -/
def valsL : List SV → Option (List Value)
  | [] => some []
  | .v x :: l => (valsL l).map (x :: ·)
  | _ :: _ => none
theorem valsL_spec (β : Nat → BI) : ∀ {l : List SV} {vs : List Value}, valsL l = some vs → denL β l = vs
  | [], vs, h => by simp [valsL] at h; subst h; rfl
  | .v x :: l, vs, h => by
    simp only [valsL, Option.map_eq_some_iff] at h
    obtain ⟨us, h1, rfl⟩ := h
    simp [denL, SV.den, valsL_spec β h1]
  | .p _ _ :: _, _, h => by simp [valsL] at h
  | .e _ _ _ _ :: _, _, h => by simp [valsL] at h
  | .a _ _ :: _, _, h => by simp [valsL] at h
  | .agg _ :: _, _, h => by simp [valsL] at h
  | .tup _ :: _, _, h => by simp [valsL] at h
  | .fn _ _ :: _, _, h => by simp [valsL] at h
  | .mp _ :: _, _, h => by simp [valsL] at h
  | .ip _ _ _ :: _, _, h => by simp [valsL] at h
  | .yl _ :: _, _, h => by simp [valsL] at h

theorem splice_list {α : Type} (A X C vs : List α) (j : Nat) (hj : j + vs.length ≤ X.length) :
    (A ++ (X ++ C)).take (A.length + j) ++ (vs ++ (A ++ (X ++ C)).drop (A.length + j + vs.length)) = A ++ ((X.take j ++ (vs ++ X.drop (j + vs.length))) ++ C) := by
  rw [List.take_append, List.take_of_length_le (l := A) (by omega), show A.length + j - A.length = j by omega, List.take_append_of_le_length (by omega)]
  rw [List.drop_append, List.drop_of_length_le (l := A) (by omega), show A.length + j + vs.length - A.length = j + vs.length by omega, List.drop_append_of_le_length (by omega)]
  simp

theorem flat_splice {α : Type} (E : Enc α) {l : List α} {k : Nat} {y y' : α} {j : Nat} {vs : List Value} (hk : l[k]? = some y) (hj : j + vs.length ≤ E.size) (hd : E.enc y' = (E.enc y).take j ++ (vs ++ (E.enc y).drop (j + vs.length))) :
    flat E (l.set k y') = (flat E l).take (k * E.size + j) ++ (vs ++ (flat E l).drop (k * E.size + j + vs.length)) := by
  obtain ⟨hlt, he⟩ := List.getElem?_eq_some_iff.1 hk
  have h0 : flat E l = (flat E l).take (k * E.size) ++ (E.enc y ++ (flat E l).drop (k * E.size + E.size)) := by
    have := flat_set E (a := y) hlt
    rwa [show l.set k y = l by rw [← he]; exact List.set_getElem_self _] at this
  have hA : ((flat E l).take (k * E.size)).length = k * E.size := by
    rw [List.length_take, flat_len]
    have : (k + 1) * E.size ≤ l.length * E.size := Nat.mul_le_mul_right _ hlt
    rw [Nat.succ_mul] at this
    omega
  have h1 := splice_list ((flat E l).take (k * E.size)) (E.enc y) ((flat E l).drop (k * E.size + E.size)) vs j (by rw [E.len]; exact hj)
  rw [← h0, hA, ← hd] at h1
  rw [h1, flat_set E hlt]

theorem OpR.storeE {T : TypeId} {x y : Operand} {id size k j n : Nat} {b : Bool} {α : Type} {c : Chunk} {E : Enc α} {l : List α} {mk : List α → Chunk} {u u' : α} {Y : SV} {vs : List Value} [hT : TyShape P T b n] (hx : evS sl x = some (.e id size k j)) (hy : evS sl y = some Y) (hc : getL hp id = some c) [hr : WRow c E l mk]
    (hs : E.size = size) (hk : l[k]? = some u) (hY : Y.flatOk = true) (hv : valsL Y.cellsS = some vs) (hn : Nat.beq vs.length n = true) (hl : Nat.ble (j + n) size = true) (hd : E.dec ((E.enc u).take j ++ (vs ++ (E.enc u).drop (j + vs.length))) = some u') :
    OpR P nt ⟨sl, hp⟩ ⟨none, .store T x y, ty, pos, af, g⟩ ⟨insOf x (.e id size k j) ++ insOf y Y, [(id, c)], [], none, .v undef, [(id, mk (l.set k u'))]⟩ ⟨sl, (id, mk (l.set k u')) :: hp⟩ := by
  subst hs
  have hn' : vs.length = n := Nat.eq_of_beq_eq_true hn
  have hl' : j + n ≤ E.size := Nat.le_of_ble_eq_true hl
  have hfl := flat_splice E (y' := u') hk (j := j) (vs := vs) (by omega) (E.decL _ _ hd)
  have hne : l ≠ [] := by rintro rfl; simp at hk
  have hne' : l.set k u' ≠ [] := by intro e; apply hne; have := congrArg List.length e; simpa using this
  have hki : k < l.length := (List.getElem?_eq_some_iff.1 hk).1
  have hbound : k * E.size + j + vs.length ≤ (flat E l).length := by
    rw [flat_len]
    have : (k + 1) * E.size ≤ l.length * E.size := Nat.mul_le_mul_right _ hki
    rw [Nat.succ_mul] at this
    omega
  have cellsEq : ∀ β, (Y.den β).cells.toList = vs := fun β => by rw [SV.cells_den hY β]; simpa using valsL_spec β hv
  have one : ∀ u ∈ vs, u.oneCell' = true := by
    have := SV.cells_one hY (fun _ => noBI)
    rwa [valsL_spec _ hv] at this
  have szEq : ∀ β, (Y.den β).cells.size = vs.length := fun β => by rw [← cellsEq β]; simp
  rcases hr.h with ⟨rfl, rfl⟩ | ⟨e, rfl, rfl⟩
  · refine OpR.put rfl hx hy hc (fun i hi => by simp [Chunk.ids] at hi) (fun β g h => ⟨hne, h.2⟩) (fun β g h => ⟨hne, h.2⟩) fun F β a w h1 h2 h3 => ?_
    obtain ⟨hrd, hmt⟩ := h3
    obtain ⟨hnil, hcell⟩ := hrd hne
    obtain ⟨hmine, hfro⟩ := hmt hne
    have hcs : ∀ i, i < (flat E l).length → (w.cell? ⟨(β id).B, (β id).O + i, none⟩).isSome = true := fun i hi => by rw [hcell i _ (List.getElem?_eq_getElem hi)]; rfl
    have hrun := run_storeAt' (P := P) (T := T) (b := (β id).B) (off := (β id).O + (k * E.size + j)) (v := Y.den β) (w := w) (by rw [szEq, hn']; exact hT.hn)
      (fun i hi => by rw [szEq] at hi; rw [Nat.add_assoc]; exact hcs _ (by omega)) (fun i hi => by rw [szEq] at hi; rw [Nat.add_assoc]; exact hfro _ (by omega)) (by rw [cellsEq]; exact one)
    rw [cellsEq] at hrun
    refine ⟨w.setCells (β id).B ((β id).O + (k * E.size + j)) vs, ?_, (setCells_fr _ _ _ _).mono (fun q _ h => ⟨hne, h⟩), ?_, fun _ => ⟨hmine, fun i hi => ?_⟩⟩
    · simp only [execOp, h1, h2, SV.den, Sem.run_bind, hrun, Result.andThen_ok, Sem.run_pure]
    · intro _
      refine ⟨⟨hnil.1, by rw [List.length_set]; exact hnil.2⟩, fun i v hv => ?_⟩
      rw [hfl] at hv
      by_cases hi1 : i < k * E.size + j
      · rw [List.getElem?_append_left (by rw [List.length_take]; omega), List.getElem?_take, if_pos hi1] at hv
        rw [World.cell?_setCells_out _ _ _ _ _ (fun _ _ => .inl (by dsimp only; omega))]
        exact hcell i v hv
      · rw [List.getElem?_append_right (by rw [List.length_take]; omega), List.length_take, Nat.min_eq_left (by omega)] at hv
        by_cases hi2 : i < k * E.size + j + vs.length
        · rw [List.getElem?_append_left (by omega)] at hv
          obtain ⟨hlt, he⟩ := List.getElem?_eq_some_iff.1 hv
          have := World.cell?_setCells_in (β id).B vs ((β id).O + (k * E.size + j)) w (fun q hq => by rw [Nat.add_assoc]; exact hcs _ (by omega)) (i - (k * E.size + j)) hlt
          rw [he] at this
          rw [← this]
          congr 2
          omega
        · rw [List.getElem?_append_right (by omega), List.getElem?_drop] at hv
          rw [World.cell?_setCells_out _ _ _ _ _ (fun _ _ => .inr (by dsimp only; omega))]
          refine hcell i v ?_
          rw [← hv]
          congr 1
          omega
    · rw [World.frozen?_setCells]
      exact hfro i (by rw [flat_len] at hi ⊢; simpa using hi)
  · refine OpR.put rfl hx hy hc (fun i hi => by simp [Chunk.ids] at hi) (fun β g h => h) (fun β g h => h) fun F β a w h1 h2 h3 => ?_
    obtain ⟨hown, hO, hmn⟩ := h3
    have hpos : 0 < (flat E l).length := by rw [flat_len]; exact Nat.mul_pos (List.length_pos_iff.2 hne) E.pos
    obtain ⟨hnil, hcell⟩ := own_read hown hO hpos
    rcases hown.2 with hn0 | ⟨q, cap, cur, hv0, hb0, hh, hnc, hcm, hcsz, htk⟩
    · have := hown.1
      rw [hn0.2] at this
      omega
    · unfold BI.ad at hv0
      rw [hnil] at hv0
      simp at hv0
      obtain ⟨⟨hq, _⟩, hcap⟩ := hv0
      have hcurl : (flat E l).length ≤ cur.size := by
        rw [← htk]
        simp
        omega
      have hrun := run_storeAt' (P := P) (T := T) (b := (β id).B) (off := (β id).O + (k * E.size + j)) (v := Y.den β) (w := w) (by rw [szEq, hn']; exact hT.hn)
        (fun i hi => by
          rw [szEq] at hi
          rw [Nat.add_assoc, hcell (k * E.size + j + i) _ (List.getElem?_eq_getElem (by omega))]
          rfl)
        (fun i hi => by
          rw [hq]
          simp [World.frozen?, hh]) (by rw [cellsEq]; exact one)
      rw [cellsEq, hO, Nat.zero_add] at hrun
      obtain ⟨cur', h5, h6⟩ := setCells_block (β id).B e vs (k * E.size + j) w cur (by rw [hq]; exact hh) (by omega)
      refine ⟨w.setCells (β id).B (k * E.size + j) vs, ?_, (setCells_fr _ _ _ _).mono (fun q _ h => ⟨hnil, h⟩), ⟨?_, ?_⟩, hO, hmn⟩
      · simp only [execOp, h1, h2, SV.den, hO, Nat.zero_add, Sem.run_bind, hrun, Result.andThen_ok, Sem.run_pure]
      · rw [flat_len]
      · refine .inr ⟨q, cap, cur', ?_, hb0, by rw [← hq]; exact h5, by simpa using hnc, hcm, ?_, ?_⟩
        · unfold BI.ad
          rw [hnil, hO, hq, hcap]
          simp
        · have := congrArg List.length h6
          simp at this
          omega
        · rw [hfl, h6, ← htk]
          have hm : (l.set k u').length * E.size = l.length * E.size := by simp
          have hL := flat_len E l
          rw [hm]
          generalize l.length * E.size = M at *
          rw [List.take_take, Nat.min_eq_left (by omega), List.take_append, List.length_take, Nat.min_eq_left (by simp; omega), List.take_of_length_le (l := List.take _ _) (by simp; omega)]
          rw [List.take_append, List.take_of_length_le (l := vs) (by omega), List.take_drop, List.drop_take]
          congr 3
          rw [List.take_drop]
          congr 2
          omega
end
end Go.Proofs.Ytiboffhdabeiiaa

/-
  The symbolic state: literals, make, append. Plain lemmas over any program.
-/
namespace Go.Proofs.Ytiboffhdabeiiaa
open Go Go.RowKit

def structFields (P : Program) (T : TypeId) : Array Field := match P.underlying T with
  | some (.struct fs) => fs
  | _ => #[]
class TyBuild (P : Program) (T : TypeId) (places : outParam (List (Nat × Nat))) (zs : outParam (List Value)) : Prop where
  hs : (match P.underlying T with | some (.struct _) => true | _ => false) = true
  hp : ∀ w, ((structFields P T).mapM fun f => (do pure (f.offset, ← sizeOf f.type) : Sem (Nat × Nat))).run P w = .ok places.toArray w
  hz : ((P.info? T).bind (·.zero)).map (fun z => z.cells) = some zs.toArray

def fillS (place : Nat → Option (Nat × Nat)) : List SV → List (Nat × SV) → Option (List SV)
  | cs, [] => some cs
  | cs, (i, X) :: rest => match place i with
    | none => none
    | some (off, size) => bif Nat.beq X.cellsS.length size && Nat.ble (off + size) cs.length && X.flatOk then fillS place (spliceS cs off X.cellsS) rest else none
theorem fold_set (off : Nat) : ∀ (l : List Value) (n : Nat) (cur : Array Value), off + n + l.length ≤ cur.size →
    ((l.zipIdx n).foldl (fun cs (c, j) => cs.setIfInBounds (off + j) c) cur).toList = cur.toList.take (off + n) ++ (l ++ cur.toList.drop (off + n + l.length))
  | [], n, cur, _ => by simp
  | v :: l, n, cur, h => by
    simp only [List.zipIdx_cons, List.foldl_cons]
    simp at h
    rw [fold_set off l (n + 1) _ (by simp; omega), Array.toList_setIfInBounds]
    have ho : off + n < cur.toList.length := by simp; omega
    rw [show off + (n + 1) = (off + n) + 1 by omega, List.take_set, List.take_add_one, List.getElem?_eq_getElem ho, List.drop_set_of_lt (by omega)]
    simp only [Option.toList_some, List.length_cons, List.cons_append]
    rw [List.set_append_right _ _ (by simp; omega)]
    simp [Nat.add_assoc, Nat.add_comm 1, Nat.min_eq_left (show off + n ≤ cur.size by omega)]
theorem fillS_spec (β : Nat → BI) (place : Nat → Option (Nat × Nat)) : ∀ (parts : List (Nat × SV)) (zs cs : List SV), fillS place zs parts = some cs →
    Instr.fill place (denL β zs).toArray (parts.map fun p => (p.1, p.2.den β)) = some (denL β cs).toArray
  | [], zs, cs, h => by
    simp [fillS] at h
    subst h
    rfl
  | (i, X) :: rest, zs, cs, h => by
    simp only [fillS] at h
    cases hpl : place i with
    | none => rw [hpl] at h; cases h
    | some q =>
      obtain ⟨off, size⟩ := q
      rw [hpl] at h
      dsimp only at h
      cases hc : (Nat.beq X.cellsS.length size && Nat.ble (off + size) zs.length && X.flatOk)
      · rw [hc] at h; cases h
      · rw [hc] at h
        simp only [cond_true] at h
        simp only [Bool.and_eq_true] at hc
        obtain ⟨⟨h1, h2⟩, h3⟩ := hc
        have h1' := Nat.eq_of_beq_eq_true h1
        have h2' := Nat.le_of_ble_eq_true h2
        have ih := fillS_spec β place rest _ _ h
        have hcd := SV.cells_den h3 β
        have hsz : (X.den β).cells.size = size := by rw [hcd]; simp [denL_len, h1']
        simp only [List.map_cons, Instr.fill, hpl, hsz]
        rw [if_neg (by simp [denL_len]; omega)]
        rw [← ih]
        congr 1
        apply Array.ext'
        rw [hcd, Array.zipIdx_toArray]
        have := fold_set off (denL β X.cellsS) 0 (denL β zs).toArray (by simp [denL_len]; omega)
        simp only [List.foldl_toArray']
        rw [this]
        simp [denL_splice]
theorem fillS_ids (place : Nat → Option (Nat × Nat)) : ∀ (parts : List (Nat × SV)) (zs cs : List SV), fillS place zs parts = some cs → ∀ i ∈ idsL cs, i ∈ idsL zs ∨ ∃ p ∈ parts, i ∈ p.2.ids
  | [], zs, cs, h, i, hi => by
    simp [fillS] at h
    subst h
    exact .inl hi
  | (k, X) :: rest, zs, cs, h, i, hi => by
    simp only [fillS] at h
    cases hpl : place k with
    | none => rw [hpl] at h; cases h
    | some q =>
      obtain ⟨off, size⟩ := q
      rw [hpl] at h
      dsimp only at h
      cases hc : (Nat.beq X.cellsS.length size && Nat.ble (off + size) zs.length && X.flatOk)
      · rw [hc] at h; cases h
      · rw [hc] at h
        simp only [cond_true] at h
        simp only [Bool.and_eq_true] at hc
        rcases fillS_ids place rest _ _ h i hi with h1 | ⟨p, hp, h1⟩
        · rcases splice_ids h1 with h1 | h1
          · exact .inl h1
          · rw [SV.cells_ids hc.2] at h1
            exact .inr ⟨(k, X), by simp, h1⟩
        · exact .inr ⟨p, List.mem_cons_of_mem _ hp, h1⟩

def evParts (sl : List (Nat × SV)) : List (Nat × Operand) → Option (List (Nat × SV))
  | [] => some []
  | (i, x) :: l => match evS sl x, evParts sl l with
    | some X, some r => some ((i, X) :: r)
    | _, _ => none
def insParts : List (Nat × Operand) → List (Nat × SV) → List (Nat × SV)
  | (_, x) :: l, (_, X) :: r => insOf x X ++ insParts l r
  | _, _ => []
theorem parts_pre {s : St} : ∀ {l : List (Nat × Operand)} {r : List (Nat × SV)}, evParts s.sl l = some r → ∀ p ∈ insParts l r, getL s.sl p.1 = some p.2
  | [], r, h, p, hp => by simp [insParts] at hp
  | (i, x) :: l, r, h, p, hp => by
    simp only [evParts] at h
    cases hx : evS s.sl x with
    | none => simp [hx] at h
    | some X =>
      cases hr : evParts s.sl l with
      | none => simp [hx, hr] at h
      | some r' =>
        simp [hx, hr] at h
        subst h
        simp only [insParts, List.mem_append] at hp
        rcases hp with hp | hp
        · exact insOf_pre hx p hp
        · exact parts_pre hr p hp
theorem parts_eval {sl : List (Nat × SV)} {β : Nat → BI} {a : Act} : ∀ {l : List (Nat × Operand)} {r : List (Nat × SV)}, evParts sl l = some r → (∀ p ∈ insParts l r, a.tmps[p.1]? = some (p.2.den β)) →
    l.map (fun p => (p.1, a.eval p.2)) = r.map fun p => (p.1, p.2.den β)
  | [], r, h, _ => by
    simp [evParts] at h
    subst h
    rfl
  | (i, x) :: l, r, h, hp => by
    simp only [evParts] at h
    cases hx : evS sl x with
    | none => simp [hx] at h
    | some X =>
      cases hr : evParts sl l with
      | none => simp [hx, hr] at h
      | some r' =>
        simp [hx, hr] at h
        subst h
        simp only [insParts] at hp
        rw [List.map_cons, List.map_cons, parts_eval hr (fun p hp' => hp p (List.mem_append_right _ hp')), eval_of (evC_of hx) (fun p hp' => hp p (List.mem_append_left _ hp'))]
theorem parts_ids {sl : List (Nat × SV)} {s : St} (hcl : Closed s) : ∀ {l : List (Nat × Operand)} {r : List (Nat × SV)}, evParts sl l = some r → (∀ p ∈ insParts l r, getL s.sl p.1 = some p.2) → ∀ p ∈ r, ∀ i ∈ p.2.ids, (getL s.hp i).isSome = true
  | [], r, h, _, p, hp => by
    simp [evParts] at h
    subst h
    simp at hp
  | (i, x) :: l, r, h, hpre, p, hp => by
    simp only [evParts] at h
    cases hx : evS sl x with
    | none => simp [hx] at h
    | some X =>
      cases hr : evParts sl l with
      | none => simp [hx, hr] at h
      | some r' =>
        simp [hx, hr] at h
        subst h
        simp only [insParts] at hpre
        rcases List.mem_cons.1 hp with rfl | hp
        · exact ids_of hcl (evC_of hx) (fun p hp' => hpre p (List.mem_append_left _ hp'))
        · exact parts_ids hcl hr (fun p hp' => hpre p (List.mem_append_right _ hp')) p hp

theorem run_zero' {P : Program} {w : World} {T : TypeId} {i : TypeInfo} {z : Value} (hi : P.info? T = some i) (hz : i.zero = some z) : (zeroValue T).run P w = .ok z w := by simp [zeroValue, typeInfo, hi, hz]

section
variable {P : Program} {nt : Nat} {o : Oper} {sl : List (Nat × SV)} {hp : List (Nat × Chunk)} {t : Nat}
variable {ty : TypeId} {pos : String} {af : Array Edge} {g : Option (Nat × Bool)}

theorem OpR.build {T : TypeId} {parts : List (Nat × Operand)} {r : List (Nat × SV)} {places : List (Nat × Nat)} {zs : List Value} {cs : List SV} [hT : TyBuild P T places zs] (hr : evParts sl parts = some r) (hc : fillS (fun i => places[i]?) (zs.map SV.v) r = some cs) (ht : Nat.blt t nt = true) :
    OpR P nt ⟨sl, hp⟩ ⟨some t, .build T parts.toArray, ty, pos, af, g⟩ ⟨insParts parts r, [], [], some t, .agg cs, []⟩ ⟨(t, .agg cs) :: sl, hp⟩ := by
  refine ⟨StepOk.quiet rfl (by simp [Nat.blt] at ht; omega) ?_ ?_, ⟨parts_pre (s := ⟨sl, hp⟩) hr, by simp, by simp⟩, rfl⟩
  · intro s hcl hpre _ i hi
    rcases fillS_ids _ _ _ _ hc i hi with h1 | ⟨p, hp, h1⟩
    · rw [idsL_vals] at h1
      simp at h1
    · exact parts_ids hcl hr hpre p hp i h1
  · intro F β a w hpre _
    have h1 := parts_eval hr hpre
    have h2 := fillS_spec β _ _ _ _ hc
    rw [denL_vals] at h2
    have h3 := hT.hz
    cases hu : P.underlying T with
    | none => have := hT.hs; rw [hu] at this; cases this
    | some d =>
      cases d with
      | struct fs =>
        have h4 := hT.hp w
        have h5 : structFields P T = fs := by simp [structFields, hu]
        rw [h5] at h4
        cases hinf : P.info? T with
        | none => rw [hinf] at h3; cases h3
        | some i =>
          rw [hinf] at h3
          cases hzz : i.zero with
          | none => simp [hzz] at h3
          | some z =>
            simp [hzz] at h3
            have h6 : (parts.toArray.map fun x => (x.1, a.eval x.2)).toList = r.map fun p => (p.1, p.2.den β) := by simp [h1]
            simp only [execOp, Instr.build, Sem.run_bind, run_zero' hinf hzz, Result.andThen_ok, Sem.run_pure, run_underlying hu]
            rw [h4]
            simp only [Result.andThen_ok, h6, h3]
            have h7 : (fun x => places.toArray[x]?) = fun i : Nat => places[i]? := by funext i; simp
            rw [h7, h2]
            rfl
      | _ => have := hT.hs; rw [hu] at this; cases this

def decRows {α : Type} (E : Enc α) : Nat → List Value → Option (List α)
  | 0, [] => some []
  | 0, _ => none
  | n + 1, vs => match E.dec (vs.take E.size), decRows E n (vs.drop E.size) with
    | some x, some l => some (x :: l)
    | _, _ => none
theorem decRows_spec {α : Type} (E : Enc α) : ∀ (n : Nat) (vs : List Value) (l : List α), decRows E n vs = some l → flat E l = vs ∧ l.length = n
  | 0, [], l, h => by
    simp [decRows] at h
    subst h
    exact ⟨rfl, rfl⟩
  | 0, _ :: _, l, h => by simp [decRows] at h
  | n + 1, vs, l, h => by
    simp only [decRows] at h
    cases hd : E.dec (vs.take E.size) with
    | none => simp [hd] at h
    | some x =>
      cases hr : decRows E n (vs.drop E.size) with
      | none => simp [hd, hr] at h
      | some l' =>
        simp [hd, hr] at h
        subst h
        obtain ⟨h1, h2⟩ := decRows_spec E n _ _ hr
        refine ⟨?_, by simp [h2]⟩
        have : flat E (x :: l') = E.enc x ++ flat E l' := by simp [flat]
        rw [this, h1, E.decL _ _ hd, List.take_append_drop]

theorem made_flat {α : Type} (E : Enc α) (z : Array Value) (a : α) (hz : z.toList = E.enc a) (n : Nat) : ((Array.range (n * E.size)).map (z[· % z.size]!)).toList = flat E (List.replicate n a) := by
  have hsz : z.size = E.size := by rw [← E.len a, ← hz]; simp
  apply List.ext_getElem?
  intro i
  by_cases hi : i < n * E.size
  · have hk : i / E.size < n := (Nat.div_lt_iff_lt_mul E.pos).2 hi
    have hj : i % E.size < E.size := Nat.mod_lt _ E.pos
    have h1 : (List.replicate n a)[i / E.size]? = some a := by rw [List.getElem?_replicate, if_pos hk]
    have h2 : (E.enc a)[i % E.size]? = some (z[i % E.size]!) := by
      rw [← hz]
      simp [hsz, hj]
    have h3 := flat_at E h1 h2
    have h4 : i / E.size * E.size + i % E.size = i := by rw [Nat.mul_comm]; exact Nat.div_add_mod i E.size
    rw [h4] at h3
    rw [h3]
    simp [hi, hsz]
  · rw [List.getElem?_eq_none (by simp; omega), List.getElem?_eq_none (by rw [flat_len]; simp; omega)]

theorem elem_info {e : TypeId} {α : Type} {E : Enc α} {bytes : Nat} (h : TyElem P e E bytes) : ∃ i z, P.info? e = some i ∧ i.zero = some z ∧ i.size = E.size ∧ i.bytes = bytes ∧ z.cells.toList = E.enc E.zero ∧ z.cells.size = E.size := by
  have h1 := h.hi
  have h2 := h.hz
  cases hinf : P.info? e with
  | none => rw [hinf] at h1; cases h1
  | some i =>
    rw [hinf] at h1 h2
    cases hzz : i.zero with
    | none => simp [hzz] at h2
    | some z =>
      simp [hzz] at h1 h2
      exact ⟨i, z, rfl, hzz, h1.1, h1.2, h2, by have := congrArg List.length h2; rw [E.len] at this; simpa using this⟩

def ownBI (g cap : Nat) : BI := ⟨false, g, 0, cap, none, []⟩
theorem newOwn_ok {F : Fm} {β : Nat → BI} {α : Type} {e : TypeId} {E : Enc α} {l : List α} {w' : World} {g cap : Nat} (h : w'.ownsRow 0 e E.size (.slice (some ⟨g, 0, none⟩) l.length cap) l.length (flat E l)) (hm : F.mine g) :
    ChOk F (upd β t (ownBI g cap)) t w' (.own e E l) := by
  refine ⟨?_, by simp [upd_same, ownBI], fun _ => by simpa [upd_same, ownBI] using hm, by simp [upd_same, ownBI]⟩
  simp only [upd_same, ownBI, BI.ad]
  exact h
theorem newOwn_bl {β : Nat → BI} {α : Type} {e : TypeId} {E : Enc α} {l : List α} {g cap q : Nat} (h : Bl (upd β t (ownBI g cap)) t (.own e E l) q) : q = g := by
  simpa [Bl, Wr, upd_same, ownBI] using h

theorem OpR.buildSlice {T : TypeId} {len : Nat} {parts : List (Nat × Operand)} {r : List (Nat × SV)} {e sz : Nat} {α : Type} {E : Enc α} {bytes : Nat} {cs : List SV} {vs : List Value} {l : List α} [hT : TySlice P T e sz] [hE : TyElem P e E bytes]
    (hr : evParts sl parts = some r) (hc : fillS (fun i => some (i * sz, sz)) ((flat E (List.replicate len E.zero)).map SV.v) r = some cs) (hv : valsL cs = some vs) (hd : decRows E len vs = some l) (hlen : Nat.ble len 1000 = true) (hsz : Nat.ble sz 1000 = true) (hsE : Nat.beq E.size sz = true) (ht : Nat.blt t nt = true) (hf : getL hp t = none) :
    OpR P nt ⟨sl, hp⟩ ⟨some t, .buildSlice T len parts.toArray, ty, pos, af, g⟩ ⟨insParts parts r, [], [t], some t, .a t len, [(t, .own e E l)]⟩ ⟨(t, .a t len) :: sl, (t, .own e E l) :: hp⟩ := by
  have hlen' := Nat.le_of_ble_eq_true hlen
  have hsz' := Nat.le_of_ble_eq_true hsz
  have hsE' := Nat.eq_of_beq_eq_true hsE
  subst hsE'
  have hbig : len * E.size ≤ 1000 * 1000 := Nat.mul_le_mul hlen' hsz'
  refine OpR.make rfl ht hf (parts_pre (s := ⟨sl, hp⟩) hr) (fun i hi => by simpa [SV.ids] using hi) fun F β s a w hs hp1 hn hpre => ?_
  obtain ⟨i, z, hi, hz, hi1, hi2, hz1, hz2⟩ := elem_info hE
  obtain ⟨h1, h2⟩ := decRows_spec E _ _ _ hd
  have h3 := parts_eval hr hpre
  have h4 := fillS_spec β _ _ _ _ hc
  rw [denL_vals, valsL_spec β hv, ← h1] at h4
  have h6 : (parts.toArray.map fun x => (x.1, a.eval x.2)).toList = r.map fun p => (p.1, p.2.den β) := by simp [h3]
  have hrun : (execOp a.eval ⟨some t, .buildSlice T len parts.toArray, ty, pos, af, g⟩).run P w = .ok (.value (.slice (some ⟨w.heap.size, 0, none⟩) len len)) (w.alloc (.cells (flat E l).toArray e)) := by
    have hif : ¬ len * E.size > 2 ^ 24 := by omega
    have h7 : ((Array.range (len * E.size)).map ((if len * E.size = 0 then #[] else z.cells)[· % (if len * E.size = 0 then (#[] : Array Value) else z.cells).size]!)) = (flat E (List.replicate len E.zero)).toArray := by
      by_cases h0 : len * E.size = 0
      · have hl0 : len = 0 := by
          rcases Nat.mul_eq_zero.1 h0 with h | h
          · exact h
          · have := E.pos; omega
        subst hl0
        simp [flat, h0]
      · rw [if_neg h0]
        apply Array.ext'
        exact made_flat E z.cells E.zero hz1 len
    by_cases h0 : len * E.size = 0
    · simp only [h0, if_true] at h7
      simp only [execOp, Instr.buildSlice, Sem.run_bind, run_underlying hT.h, Result.andThen_ok, run_sizeOf' hT.hn, h0, if_neg (show ¬ (0 : Nat) > 2 ^ 24 by decide), if_true, Sem.run_pure, h6, h7, h4, newRow]
      rfl
    · simp only [h0, if_false] at h7
      simp only [execOp, Instr.buildSlice, Sem.run_bind, run_underlying hT.h, Result.andThen_ok, run_sizeOf' hT.hn, if_neg hif, if_neg h0, Sem.run_pure, run_zero' hi hz, h6, h7, h4, newRow]
      rfl
  refine ⟨ownBI w.heap.size len, w.alloc (.cells (flat E l).toArray e), ?_, fr_alloc _ _, newOwn_ok ?_ (.inl hs.2.2.2.2.2.size), fun q hq => by rw [newOwn_bl hq]; exact Nat.le_refl _, by simp [Chunk.ids]⟩
  · rw [hrun]
    simp [SV.den, upd_same, ownBI, BI.dn]
  · rw [h2]
    have := World.ownsRow_lit (base := 0) (size := E.size) (e := e) w (flat E l).toArray len (Nat.zero_le _) (by unfold maxLen; omega) (by simp [flat_len, h2])
    simpa using this
end
end Go.Proofs.Ytiboffhdabeiiaa

/-
  The symbolic state: make, append, pieces of rows. Plain lemmas over any program.
-/
namespace Go.Proofs.Ytiboffhdabeiiaa
open Go Go.RowKit

theorem fr_of_grown {w w' : World} (h : w.grownBy w' none) : Fr (fun _ => False) w w' := Fr.of_grown h (fun k _ e => by cases e)

theorem own_cases {w : World} {base n size : Nat} {e : TypeId} {v : Value} {xs : List Value} (h : w.ownsRow base e size v n xs) : ∃ b : BI, v = .slice b.ad n b.cap ∧ b.O = 0 ∧ (b.nil = true → b.cap = 0 ∧ n = 0) ∧ v.ownBlock = (if b.nil then none else some b.B) ∧ b.od = none := by
  rcases h.2 with ⟨rfl, rfl⟩ | ⟨g, cap, cur, rfl, _⟩
  · exact ⟨⟨true, 0, 0, 0, none, []⟩, rfl, rfl, fun _ => ⟨rfl, rfl⟩, rfl, rfl⟩
  · exact ⟨⟨false, g, 0, cap, none, []⟩, rfl, rfl, fun h => by simp at h, rfl, rfl⟩

theorem run_append_nilsrc {P : Program} {w : World} (base : Nat) (t ty e : TypeId) (i : TypeInfo) (size : Nat) (ht : P.underlying t = some (.slice e)) (hi : P.info? e = some i)
    (v : Value) (n : Nat) (xs : List Value) (hown : w.ownsRow base e size v n xs) (ao : Option Addr) (c : Nat) : (Builtin.append_ #[t, t] ty #[v, .slice ao 0 c]).run P w = .ok v w := by
  rcases hown.2 with ⟨rfl, rfl⟩ | ⟨g, cap, cur, rfl, _, _, hnc, _⟩
  · cases ao <;> simp [loadCells, loadCellsFrom, Builtin.append_, run_underlying ht, sizeOf, typeInfo, hi, Builtin.lenOf, Builtin.firstCells]
  · cases ao <;> simp [loadCells, loadCellsFrom, Builtin.append_, run_underlying ht, sizeOf, typeInfo, hi, Builtin.lenOf, Builtin.firstCells, hnc, storeCells]

/-- An append to a row of one's own, of any row that reads. -/
theorem run_append_row {P : Program} {w : World} {base : Nat} {T ty e sz : TypeId} {α : Type} {E : Enc α} {bytes : Nat} (hT : TySlice P T e sz) (hE : TyElem P e E bytes) {v : Value} {n : Nat} {l l2 : List α} (hown : w.ownsRow base e E.size v n (flat E l))
    {β : Nat → BI} {j : Nat} (hrd : RdOk β j w E l2) (hnil : (β j).nil = true → l2 = []) (h63 : n + l2.length ≤ 1099511627776) (hby : bytes ≤ 64) (hbase : base ≤ w.heap.size) :
    ∃ v' w', (Builtin.append_ #[T, T] ty #[v, .slice (β j).dn l2.length (β j).cap]).run P w = .ok v' w' ∧ w'.ownsRow base e E.size v' (n + l2.length) (flat E (l ++ l2)) ∧ w.grownBy w' v.ownBlock ∧
      (v'.ownBlock = v.ownBlock ∨ v'.ownBlock = some w.heap.size) := by
  obtain ⟨i, z, hi, hz, hi1, hi2, hz1, hz2⟩ := elem_info hE
  cases hn : (β j).nil
  · have had : (β j).dn = some ⟨(β j).B, (β j).O, none⟩ := by simp [BI.dn, hn]
    rw [had]
    have hnews : ∀ q u, (flat E l2)[q]? = some u → w.cell? ((⟨(β j).B, (β j).O, none⟩ : Addr).add q) = some u := by
      intro q u hu
      have hl : l2 ≠ [] := by rintro rfl; simp [flat] at hu
      rw [add_lit]
      exact (hrd hl).2 q u hu
    have hmul : (n + l2.length) * bytes ≤ 1099511627776 * 64 := Nat.mul_le_mul h63 hby
    obtain ⟨v', w', h1, h2, h3, _, h5⟩ := run_append_own_at (P := P) w base T ty e i z E.size bytes hT.h hi hz hi1 hi2 hz2 E.pos v n (flat E l) hown _ l2.length (β j).cap (flat E l2) (flat_len E l2) hnews (flat_one E l2) (by simp only [maxLen]; omega) (by omega) hbase
    refine ⟨v', w', h1, ?_, h3, h5⟩
    rw [flat_append]
    exact h2
  · have hl := hnil hn
    subst hl
    refine ⟨v, w, run_append_nilsrc base T ty e i E.size hT.h hi v n _ hown _ _, ?_, World.grownBy.refl w _, .inl rfl⟩
    simpa [flat] using hown

section
variable {P : Program} {nt : Nat} {o : Oper} {sl : List (Nat × SV)} {hp : List (Nat × Chunk)} {t : Nat}
variable {ty : TypeId} {pos : String} {af : Array Edge} {g : Option (Nat × Bool)}

theorem own_ok_of {F : Fm} {β : Nat → BI} {α : Type} {e : TypeId} {E : Enc α} {l : List α} {w' : World} {b : BI} (h : w'.ownsRow 0 e E.size (.slice b.ad l.length b.cap) l.length (flat E l)) (hO : b.O = 0) (hd : b.od = none) (hm : b.nil = false → F.mine b.B) : ChOk F (upd β t b) t w' (.own e E l) := by
  refine ⟨?_, by rw [upd_same]; exact hO, by rw [upd_same]; exact hm, by rw [upd_same]; exact hd⟩
  rw [upd_same]
  exact h
theorem own_bl_of {β : Nat → BI} {α : Type} {e : TypeId} {E : Enc α} {l : List α} {b : BI} {q : Nat} (h : Bl (upd β t b) t (.own e E l) q) : b.nil = false ∧ q = b.B := by
  simpa [Bl, Wr, upd_same] using h

theorem OpR.make' {T : TypeId} {x y : Operand} {n : Nat} {kl kc : IntKind} {e sz : Nat} {α : Type} {E : Enc α} {bytes : Nat} [hT : TySlice P T e sz] [hE : TyElem P e E bytes] (hx : evS sl x = some (.v (.int kl ((n : Nat) : Int)))) (hy : evS sl y = some (.v (.int kc ((n : Nat) : Int))))
    (hn1 : n ≤ 1099511627776) (hby : Nat.ble bytes 64 = true) (ht : Nat.blt t nt = true) (hf : getL hp t = none) :
    OpR P nt ⟨sl, hp⟩ ⟨some t, .makeSlice T x y, ty, pos, af, g⟩ ⟨insOf x (.v (.int kl ((n : Nat) : Int))) ++ insOf y (.v (.int kc ((n : Nat) : Int))), [], [t], some t, .a t n, [(t, .own e E (List.replicate n E.zero))]⟩ ⟨(t, .a t n) :: sl, (t, .own e E (List.replicate n E.zero)) :: hp⟩ := by
  have hby' := Nat.le_of_ble_eq_true hby
  refine OpR.make rfl ht hf ?_ (fun i hi => by simpa [SV.ids] using hi) fun F β s a w hs hp1 hn hpre => ?_
  · intro p hp'
    rcases List.mem_append.1 hp' with h1 | h1
    · exact insOf_pre (s := ⟨sl, hp⟩) hx p h1
    · exact insOf_pre (s := ⟨sl, hp⟩) hy p h1
  · obtain ⟨i, z, hi, hz, hi1, hi2, hz1, hz2⟩ := elem_info hE
    have hmul : i.bytes * n ≤ 64 * 1099511627776 := Nat.mul_le_mul (by omega) hn1
    obtain ⟨w', h1, h2, h3⟩ := run_make_full (P := P) w 0 T e i z E.size hT.h hi hz hi1 kl kc n (by omega) (by simp only [maxLen]; omega) (Nat.zero_le _)
    rw [show (madeCells z.cells (n * E.size)).toList = flat E (List.replicate n E.zero) from made_flat E z.cells E.zero hz1 n] at h2
    refine ⟨ownBI w.heap.size n, w', ?_, fr_of_grown h3, ?_, fun q hq => by rw [newOwn_bl hq]; exact Nat.le_refl _, by simp [Chunk.ids]⟩
    · simp [execOp, eval_of (evC_of hx) (fun p hp' => hpre p (List.mem_append_left _ hp')), eval_of (evC_of hy) (fun p hp' => hpre p (List.mem_append_right _ hp')), SV.den, h1, upd_same, ownBI, BI.dn]
    · refine newOwn_ok ?_ (.inl hs.2.2.2.2.2.size)
      simpa using h2

/-- Whether a row is nil only if it is empty: rows of one's own are. -/
theorem own_nil {F : Fm} {β : Nat → BI} {id : Nat} {w : World} {α : Type} {e : TypeId} {E : Enc α} {l : List α} (h : ChOk F β id w (.own e E l)) (hn : (β id).nil = true) : l = [] := by
  rcases h.1.2 with ⟨_, h2⟩ | ⟨g, cap, cur, hv, _⟩
  · exact List.eq_nil_of_length_eq_zero h2
  · simp [BI.ad, hn] at hv
theorem RowC.nil_ {F : Fm} {β : Nat → BI} {id : Nat} {w : World} {α : Type} {c : Chunk} {E : Enc α} {l : List α} (h : RowC c E l) (hc : ChOk F β id w c) (hn : (β id).nil = true) : l = [] := by
  have hr := h.read hc
  cases l with
  | nil => rfl
  | cons x l =>
    have := (hr (by simp)).1.1
    rw [hn] at this
    cases this

theorem append_gen {T : TypeId} {x y : Operand} {j n m : Nat} {e sz : Nat} {α : Type} {E : Enc α} {bytes : Nat} {l l2 : List α} {cj : Chunk} {X : SV} {wr1 : List (Nat × Chunk)} {hin1 : List (Nat × Chunk)} [hT : TySlice P T e sz] [hE : TyElem P e E bytes] (hx : evS sl x = some X) (hy : evS sl y = some (.a j m)) (hcj : getL hp j = some cj) [hr : RowC cj E l2]
    (hn : l.length = n) (hm : l2.length = m) (hmax : n + m ≤ 1099511627776) (hby : Nat.ble bytes 64 = true) (ht : Nat.blt t nt = true) (hf : getL hp t = none) (h1 : ∀ p ∈ hin1, getL hp p.1 = some p.2)
    (hX : ∀ (F : Fm) (β : Nat → BI) (s : St) (a : Act) (w : World), SatB F nt β s a w → (∀ p ∈ hin1, getL s.hp p.1 = some p.2) → w.ownsRow 0 e E.size (X.den β) n (flat E l))
    (hown : ∀ (F : Fm) (β : Nat → BI) (s : St) (a : Act) (w : World) g, SatB F nt β s a w → (∀ p ∈ hin1, getL s.hp p.1 = some p.2) → (X.den β).ownBlock = some g → ∃ i c0, getL s.hp i = some c0 ∧ (getL wr1 i).isSome = true ∧ Wr β i c0 g)
    (hwr1 : ∀ i c, getL wr1 i = some c → c = .dead) :
    OpR P nt ⟨sl, hp⟩ ⟨some t, .call { callee := .builtin .append, args := #[x, y], argTypes := #[T, T] }, ty, pos, af, g⟩ ⟨insOf x X ++ insOf y (.a j m), (j, cj) :: hin1, [t], some t, .a t (n + m), (t, .own e E (l ++ l2)) :: wr1⟩ ⟨(t, .a t (n + m)) :: sl, (t, .own e E (l ++ l2)) :: (wr1 ++ hp)⟩ := by
  subst hn
  subst hm
  have hby' := Nat.le_of_ble_eq_true hby
  refine ⟨⟨rfl, fun F s a w hs hpre => ?_⟩, ⟨?_, ?_, by simpa using hf⟩, rfl⟩
  · obtain ⟨β, hs⟩ := hs
    obtain ⟨p1, p2, p3⟩ := hpre
    have hn := p3 t (by simp)
    have q : ∀ p ∈ insOf x X ++ insOf y (.a j l2.length), a.tmps[p.1]? = some (p.2.den β) := fun p hp => hs.2.2.1 _ _ (p1 p hp)
    have ex := eval_of (evC_of hx) (fun p hp' => q p (List.mem_append_left _ hp'))
    have ey := eval_of (evC_of hy) (fun p hp' => q p (List.mem_append_right _ hp'))
    have cj0 := p2 (j, cj) (by simp)
    have hj := hs.2.2.2.1.1 _ _ cj0
    have hin : ∀ p ∈ hin1, getL s.hp p.1 = some p.2 := fun p hp => p2 p (List.mem_cons_of_mem _ hp)
    have ho := hX F β s a w hs hin
    obtain ⟨v', w', hrun, ho', hgr, hbk⟩ := run_append_row (P := P) (ty := ty) hT hE ho (hr.read hj) (hr.nil_ hj) hmax hby' (Nat.zero_le _)
    obtain ⟨b, hv', hO, hnilb, hobk, hod⟩ := own_cases ho'
    refine Oper.wp_ok (v := v') (w' := w') ?_ ?_
    · simp [execOp, resolve, invoke, builtin, ex, ey, SV.den, hrun]
    · have ht' : t < nt := by simp [Nat.blt] at ht; omega
      have hlen : (l ++ l2).length = l.length + l2.length := by simp
      have one : ∀ {i c}, getL ((t, .own e E (l ++ l2)) :: wr1) i = some c → (i = t ∧ c = .own e E (l ++ l2)) ∨ (i ≠ t ∧ c = .dead) := by
        intro i c hi
        rw [getL_cons] at hi
        split at hi
        · rename_i e1
          injection hi with hi
          exact .inl ⟨e1.symm, hi.symm⟩
        · rename_i e1
          exact .inr ⟨Ne.symm e1, hwr1 i c hi⟩
      have blk : ∀ q, b.nil = false → q = b.B → (X.den β).ownBlock = some q ∨ q = w.heap.size := by
        intro q hnb hq
        rw [hobk, hnb] at hbk
        rcases hbk with h | h
        · exact .inl (by rw [← h, hq]; simp)
        · exact .inr (by simp at h; omega)
      have hmv := hs.move (β' := upd β t b) (w' := w') (T := fun g => (X.den β).ownBlock = some g) ((t, .own e E (l ++ l2)) :: wr1) (upd_old hn) (Fr.of_grown hgr (fun k _ e => e))
        (fun g hg => by
          obtain ⟨i, c0, hi, hw, hwr⟩ := hown F β s a w g hs hin hg
          exact ⟨i, c0, hi, by rw [getL_cons]; split <;> simp [hw], hwr⟩)
        (fun i c hi => by
          rcases one hi with ⟨rfl, rfl⟩ | ⟨_, rfl⟩
          · refine own_ok_of ?_ hO hod (fun hnb => ?_)
            rotate_left
            · rcases blk b.B hnb rfl with h | h
              · obtain ⟨i, c0, hi, hw, hwr⟩ := hown F β s a w b.B hs hin h
                exact (hs.2.2.2.1.1 i c0 hi).mine hwr
              · have := hs.2.2.2.2.2.size
                exact .inl (by omega)
            rw [hlen, ← hv']
            exact ho'
          · trivial)
        (fun i c g hi hg => by
          rcases one hi with ⟨rfl, rfl⟩ | ⟨_, rfl⟩
          · obtain ⟨hnb, hq⟩ := own_bl_of (Wr.bl hg)
            rcases blk g hnb hq with h | h
            · obtain ⟨i, c0, hi, hw, hwr⟩ := hown F β s a w g hs hin h
              exact .inr ⟨i, c0, hi, by rw [getL_cons]; split <;> simp [hw], hwr⟩
            · exact .inl (by omega)
          · exact hg.elim)
        (fun i c g hi hg => by
          rcases one hi with ⟨rfl, rfl⟩ | ⟨_, rfl⟩
          · obtain ⟨hnb, hq⟩ := own_bl_of hg
            rcases blk g hnb hq with h | h
            · obtain ⟨i, c0, hi, hw, hwr⟩ := hown F β s a w g hs hin h
              exact .inr ⟨i, c0, hi, hwr.bl, .inl (by rw [getL_cons]; split <;> simp [hw])⟩
            · exact .inl (by omega)
          · exact hg.elim)
        (fun i k ci ck hne hi hk g hg hb => by
          rcases one hi with ⟨rfl, rfl⟩ | ⟨_, rfl⟩
          · rcases one hk with ⟨rfl, rfl⟩ | ⟨_, rfl⟩
            · exact hne rfl
            · exact hb.elim
          · exact hg.elim)
        (fun i c hi k hk => by
          rcases one hi with ⟨rfl, rfl⟩ | ⟨_, rfl⟩ <;> simp [Chunk.ids] at hk)
      have hput := hmv.put (t := t) (x := .a t (l.length + l2.length)) ht' (fun i hi => by
        have : i = t := by simpa [SV.ids] using hi
        subst this
        simp [getL_cons])
      have hden : (SV.a t (l.length + l2.length)).den (upd β t b) = v' := by rw [hv', ← BI.dn_ad hod]; simp [SV.den, upd_same]
      rw [hden] at hput
      exact ⟨_, hput⟩
  · intro p hp'
    rcases List.mem_append.1 hp' with h1 | h1
    · exact insOf_pre (s := ⟨sl, hp⟩) hx p h1
    · exact insOf_pre (s := ⟨sl, hp⟩) hy p h1
  · intro p hp'
    rcases List.mem_cons.1 hp' with rfl | h
    · exact hcj
    · exact h1 p h

theorem OpR.append {T : TypeId} {x y : Operand} {i j n m : Nat} {e sz : Nat} {α : Type} {E : Enc α} {bytes : Nat} {l l2 : List α} {cj : Chunk} [hT : TySlice P T e sz] [hE : TyElem P e E bytes] (hx : evS sl x = some (.a i n)) (hy : evS sl y = some (.a j m)) (hci : getL hp i = some (.own e E l)) (hcj : getL hp j = some cj) [hr : RowC cj E l2]
    (hn : l.length = n) (hm : l2.length = m) (hmax : n + m ≤ 1099511627776) (hby : Nat.ble bytes 64 = true) (ht : Nat.blt t nt = true) (hf : getL hp t = none) :
    OpR P nt ⟨sl, hp⟩ ⟨some t, .call { callee := .builtin .append, args := #[x, y], argTypes := #[T, T] }, ty, pos, af, g⟩ ⟨insOf x (.a i n) ++ insOf y (.a j m), [(j, cj), (i, .own e E l)], [t], some t, .a t (n + m), [(t, .own e E (l ++ l2)), (i, .dead)]⟩ ⟨(t, .a t (n + m)) :: sl, (t, .own e E (l ++ l2)) :: (i, .dead) :: hp⟩ := by
  refine append_gen (wr1 := [(i, .dead)]) (hin1 := [(i, .own e E l)]) hx hy hcj hn hm hmax hby ht hf (by simpa using hci) ?_ ?_ ?_
  · intro F β s a w hs h1
    have := hs.2.2.2.1.1 i _ (h1 (i, .own e E l) (by simp))
    rw [← hn]
    simp only [SV.den, BI.dn_ad this.2.2.2]
    exact this.1
  · intro F β s a w g hs h1 hg
    have hod := (hs.2.2.2.1.1 i _ (h1 (i, .own e E l) (by simp))).2.2.2
    refine ⟨i, _, h1 (i, .own e E l) (by simp), by simp [getL_cons], ?_⟩
    simp only [SV.den, BI.dn_ad hod] at hg
    simp only [BI.ad] at hg
    cases hb : (β i).nil
    · rw [hb] at hg
      simp [Value.ownBlock] at hg
      exact ⟨hb, hg.symm⟩
    · rw [hb] at hg
      simp [Value.ownBlock] at hg
  · intro k c hk
    rw [getL_cons] at hk
    split at hk
    · injection hk with hk
      exact hk.symm
    · simp [getL] at hk
theorem OpR.appendNil {T : TypeId} {x y : Operand} {j m : Nat} {e sz : Nat} {α : Type} {E : Enc α} {bytes : Nat} {l2 : List α} {cj : Chunk} [hT : TySlice P T e sz] [hE : TyElem P e E bytes] (hx : evS sl x = some (.v (.slice none 0 0))) (hy : evS sl y = some (.a j m)) (hcj : getL hp j = some cj) [hr : RowC cj E l2]
    (hm : l2.length = m) (hmax : 0 + m ≤ 1099511627776) (hby : Nat.ble bytes 64 = true) (ht : Nat.blt t nt = true) (hf : getL hp t = none) :
    OpR P nt ⟨sl, hp⟩ ⟨some t, .call { callee := .builtin .append, args := #[x, y], argTypes := #[T, T] }, ty, pos, af, g⟩ ⟨insOf x (.v (.slice none 0 0)) ++ insOf y (.a j m), [(j, cj)], [t], some t, .a t (0 + m), [(t, .own e E ([] ++ l2))]⟩ ⟨(t, .a t (0 + m)) :: sl, (t, .own e E ([] ++ l2)) :: hp⟩ := by
  refine append_gen (wr1 := []) (hin1 := []) hx hy hcj rfl hm hmax hby ht hf (by simp) ?_ ?_ ?_
  · intro F β s a w hs h1
    exact World.ownsRow_nil _ _ _ _
  · intro F β s a w g hs h1 hg
    simp [SV.den, Value.ownBlock] at hg
  · intro k c hk
    simp [getL] at hk
/-- A row held against nil: it has elements. -/
theorem OpR.eqlNil {T : TypeId} {x : Operand} {id n : Nat} {e sz : Nat} {T' : TypeId} {α : Type} {c : Chunk} {E : Enc α} {l : List α} [hT : TySlice P T e sz] (hx : evS sl x = some (.a id n)) (hc : getL hp id = some c) [hr : RowC c E l] (hl : 0 < l.length) (ht : Nat.blt t nt = true) :
    OpR P nt ⟨sl, hp⟩ ⟨some t, .binOp .eql T x (.const (.slice none 0 0)) T', ty, pos, af, g⟩ ⟨insOf x (.a id n), [(id, c)], [], some t, .v (.bool false), []⟩ ⟨(t, .v (.bool false)) :: sl, hp⟩ := by
  refine OpR.look rfl ht hx hc (fun i hi => by simp [SV.ids] at hi) fun F β a w h1 h3 => ?_
  have h4 := (hr.read h3 (by rintro rfl; simp at hl)).1.1
  have hc0 : a.eval (.const (.slice none 0 0)) = .slice none 0 0 := rfl
  simp only [execOp, h1, hc0, SV.den, Sem.run_bind, eqGuard_at_slice, Sem.run_pure, Result.andThen_ok]
  rw [Lib.run_eql_slice_nil w T e _ _ _ _ _ hT.h]
  simp [BI.dn, h4]
theorem OpR.neqNil {T : TypeId} {x : Operand} {id n : Nat} {e sz : Nat} {T' : TypeId} {α : Type} {c : Chunk} {E : Enc α} {l : List α} [hT : TySlice P T e sz] (hx : evS sl x = some (.a id n)) (hc : getL hp id = some c) [hr : RowC c E l] (hl : 0 < l.length) (ht : Nat.blt t nt = true) :
    OpR P nt ⟨sl, hp⟩ ⟨some t, .binOp .neq T x (.const (.slice none 0 0)) T', ty, pos, af, g⟩ ⟨insOf x (.a id n), [(id, c)], [], some t, .v (.bool true), []⟩ ⟨(t, .v (.bool true)) :: sl, hp⟩ := by
  refine OpR.look rfl ht hx hc (fun i hi => by simp [SV.ids] at hi) fun F β a w h1 h3 => ?_
  have h4 := (hr.read h3 (by rintro rfl; simp at hl)).1.1
  have hc0 : a.eval (.const (.slice none 0 0)) = .slice none 0 0 := rfl
  simp only [execOp, h1, hc0, SV.den, Sem.run_bind, eqGuard_at_slice, Sem.run_pure, Result.andThen_ok]
  rw [Go.run_neq_slice_nil_any w T e _ _ _ _ _ hT.h]
  simp [BI.dn, h4]
theorem OpR.eqlNilV {T : TypeId} {x : Operand} {ao : Option Addr} {n cp : Nat} {e sz : Nat} {T' : TypeId} [hT : TySlice P T e sz] (hx : evS sl x = some (.v (.slice ao n cp))) (ht : Nat.blt t nt = true) :
    OpR P nt ⟨sl, hp⟩ ⟨some t, .binOp .eql T x (.const (.slice none 0 0)) T', ty, pos, af, g⟩ ⟨insOf x (.v (.slice ao n cp)) ++ insOf (.const (.slice none 0 0)) (.v (.slice none 0 0)), [], [], some t, .v (.bool ao.isNone), []⟩ ⟨(t, .v (.bool ao.isNone)) :: sl, hp⟩ :=
  OpR.binv hx rfl ht fun w => by
    simp only [Sem.run_bind, eqGuard_at_slice, Sem.run_pure, Result.andThen_ok]
    exact Lib.run_eql_slice_nil w T e _ _ _ _ _ hT.h
theorem OpR.neqNilV {T : TypeId} {x : Operand} {ao : Option Addr} {n cp : Nat} {e sz : Nat} {T' : TypeId} [hT : TySlice P T e sz] (hx : evS sl x = some (.v (.slice ao n cp))) (ht : Nat.blt t nt = true) :
    OpR P nt ⟨sl, hp⟩ ⟨some t, .binOp .neq T x (.const (.slice none 0 0)) T', ty, pos, af, g⟩ ⟨insOf x (.v (.slice ao n cp)) ++ insOf (.const (.slice none 0 0)) (.v (.slice none 0 0)), [], [], some t, .v (.bool (!ao.isNone)), []⟩ ⟨(t, .v (.bool (!ao.isNone))) :: sl, hp⟩ :=
  OpR.binv hx rfl ht fun w => by
    simp only [Sem.run_bind, eqGuard_at_slice, Sem.run_pure, Result.andThen_ok]
    exact Go.run_neq_slice_nil_any w T e _ _ _ _ _ hT.h
class TyBool (P : Program) (T : TypeId) : Prop where
  h : P.underlying T = some .bool
theorem OpR.eqlB {T T' : TypeId} {x y : Operand} {a b : Bool} [hT : TyBool P T] (hx : evS sl x = some (.v (.bool a))) (hy : evS sl y = some (.v (.bool b))) (ht : Nat.blt t nt = true) :
    OpR P nt ⟨sl, hp⟩ ⟨some t, .binOp .eql T x y T', ty, pos, af, g⟩ ⟨insOf x (.v (.bool a)) ++ insOf y (.v (.bool b)), [], [], some t, .v (.bool (decide (a = b))), []⟩ ⟨(t, .v (.bool (decide (a = b)))) :: sl, hp⟩ :=
  OpR.binv hx hy ht fun w => by
    simp only [Sem.run_bind, eqGuard_at_bool, Sem.run_pure, Result.andThen_ok]
    rw [run_eql_bool w _ _ _ hT.h]
    cases a <;> cases b <;> rfl
theorem OpR.neqB {T T' : TypeId} {x y : Operand} {a b : Bool} [hT : TyBool P T] (hx : evS sl x = some (.v (.bool a))) (hy : evS sl y = some (.v (.bool b))) (ht : Nat.blt t nt = true) :
    OpR P nt ⟨sl, hp⟩ ⟨some t, .binOp .neq T x y T', ty, pos, af, g⟩ ⟨insOf x (.v (.bool a)) ++ insOf y (.v (.bool b)), [], [], some t, .v (.bool (decide (a ≠ b))), []⟩ ⟨(t, .v (.bool (decide (a ≠ b)))) :: sl, hp⟩ :=
  OpR.binv hx hy ht fun w => by
    simp only [Sem.run_bind, eqGuard_at_bool, Sem.run_pure, Result.andThen_ok]
    rw [run_neq_bool w _ _ _ hT.h]
    cases a <;> cases b <;> rfl
/-- An append of nothing. -/
theorem OpR.appendE {T : TypeId} {x y : Operand} {i n : Nat} {ao : Option Addr} {cp : Nat} {e sz : Nat} {α : Type} {E : Enc α} {bytes : Nat} {l : List α} [hT : TySlice P T e sz] [hE : TyElem P e E bytes] (hx : evS sl x = some (.a i n)) (hy : evS sl y = some (.v (.slice ao 0 cp))) (hci : getL hp i = some (.own e E l)) (hn : l.length = n) (ht : Nat.blt t nt = true) :
    OpR P nt ⟨sl, hp⟩ ⟨some t, .call { callee := .builtin .append, args := #[x, y], argTypes := #[T, T] }, ty, pos, af, g⟩ ⟨insOf x (.a i n) ++ insOf y (.v (.slice ao 0 cp)), [(i, .own e E l)], [], some t, .a i n, []⟩ ⟨(t, .a i n) :: sl, hp⟩ := by
  subst hn
  refine OpR.look2 rfl ht hx hy hci (fun j hj => .inl hj) fun F β a w h1 h2 h3 => ?_
  obtain ⟨j, z, hi, hz, hi1, hi2, hz1, hz2⟩ := elem_info hE
  obtain ⟨ho, hO, _, hod⟩ := h3
  have hcap : l.length ≤ (β i).cap := by
    rcases ho.2 with ⟨_, h⟩ | ⟨g', cap', cur, hv, _, _, hnc, _⟩
    · omega
    · injection hv with _ _ hv
      omega
  simp only [execOp, resolve, invoke, builtin, Sem.run_bind, Sem.run_pure, Result.andThen_ok, List.map_toArray, List.map_cons, List.map_nil, h1, h2, SV.den]
  have hrun : (Builtin.append_ #[T, T] ty #[.slice (β i).ad l.length (β i).cap, .slice ao 0 cp]).run P w = .ok (.slice (β i).ad l.length (β i).cap) w := by
    cases ao with
    | none =>
      cases hb : (β i).ad <;> simp [Builtin.append_, run_underlying hT.h, sizeOf, typeInfo, hi, Builtin.lenOf, Builtin.firstCells, hcap, storeCells]
    | some ad =>
      cases hb : (β i).ad <;> simp [Builtin.append_, run_underlying hT.h, sizeOf, typeInfo, hi, Builtin.lenOf, Builtin.firstCells, hcap, storeCells, loadCells, loadCellsFrom]
  rw [BI.dn_ad hod, hrun]
  rfl
end
end Go.Proofs.Ytiboffhdabeiiaa

/-
  The symbolic state: regions, whatever order is drawn. Plain lemmas over any program.
-/
namespace Go.Proofs.Ytiboffhdabeiiaa
open Go Go.RowKit

/-- A region's operations, one behind the other, in the text's order. -/
inductive Ex (P : Program) (nt : Nat) (ops : Array Oper) : List Oper → St → List SD → St → Prop
  | nil {s : St} : Ex P nt ops [] s [] s
  | step {o : Oper} {rest : List Oper} {s s1 s' : St} {d : SD} {ds : List SD} (hg : o.guard = none) (h : OpR P nt s o d s1) (k : Ex P nt ops rest s1 ds s') : Ex P nt ops (o :: rest) s (d :: ds) s'
  | yes {o : Oper} {rest : List Oper} {s s1 s' : St} {d : SD} {ds : List SD} {j g : Nat} {w b : Bool} (hg : o.guard = some (j, w)) (hs : (ops[j]?).bind (·.dst) = some g) (hb : getL s.sl g = some (.v (.bool b))) (hw : b = w) (h : OpR P nt s o d s1)
      (k : Ex P nt ops rest s1 ds s') : Ex P nt ops (o :: rest) s (⟨(g, .v (.bool b)) :: d.ins, d.hin, d.fr, d.dst, d.v, d.wr⟩ :: ds) s'
  | no {o : Oper} {rest : List Oper} {s s' : St} {ds : List SD} {j g t : Nat} {w b : Bool} (hg : o.guard = some (j, w)) (hs : (ops[j]?).bind (·.dst) = some g) (hb : getL s.sl g = some (.v (.bool b))) (hw : b = !w) (ht : o.dst = some t) (hn : Nat.blt t nt = true)
      (k : Ex P nt ops rest ⟨(t, .v undef) :: s.sl, s.hp⟩ ds s') : Ex P nt ops (o :: rest) s (⟨[(g, .v (.bool b))], [], [], some t, .v undef, []⟩ :: ds) s'
  | noU {o : Oper} {rest : List Oper} {s s' : St} {ds : List SD} {j g t : Nat} {w : Bool} (hg : o.guard = some (j, w)) (hs : (ops[j]?).bind (·.dst) = some g) (hb : getL s.sl g = some (.v undef)) (ht : o.dst = some t) (hn : Nat.blt t nt = true)
      (k : Ex P nt ops rest ⟨(t, .v undef) :: s.sl, s.hp⟩ ds s') : Ex P nt ops (o :: rest) s (⟨[(g, .v undef)], [], [], some t, .v undef, []⟩ :: ds) s'
  | noS {o : Oper} {rest : List Oper} {s s' : St} {ds : List SD} {j g : Nat} {w b : Bool} (hg : o.guard = some (j, w)) (hs : (ops[j]?).bind (·.dst) = some g) (hb : getL s.sl g = some (.v (.bool b))) (hw : b = !w) (ht : o.dst = none)
      (k : Ex P nt ops rest s ds s') : Ex P nt ops (o :: rest) s (⟨[(g, .v (.bool b))], [], [], none, .v undef, []⟩ :: ds) s'

/-- What a guard's slot says. -/
theorem yields_undef {F : Fm} {nt : Nat} {ops : Array Oper} {s : St} {a : Act} {w : World} {o : Oper} {j g : Nat} {wt : Bool} (h : Sat F nt s a w) (hg : o.guard = some (j, wt)) (hs : (ops[j]?).bind (·.dst) = some g) (hb : getL s.sl g = some (.v undef)) : Region.wanted o (yielded ops a.tmps) = false := by
  obtain ⟨β, h1, h2, h3, _⟩ := h
  have := h3 g _ hb
  simp only [Region.wanted, hg, yielded, hs, Option.bind_some, this]
  rfl

/-- What an operation does, its guard looked at. -/
def StepG (P : Program) (nt : Nat) (ops : Array Oper) (o : Oper) (d : SD) : Prop :=
  ∀ F s a w, Sat F nt s a w → d.pre s → (Region.wanted o (yielded ops a.tmps) = true ∧ o.wpIn (fR F.rd) 0 P a w (fun a' w' => Sat F nt (d.app s) a' w') NoExit) ∨ (Region.wanted o (yielded ops a.tmps) = false ∧ Sat F nt (d.app s) (a.put o.dst undef) w)

section
variable {P : Program} {nt : Nat} {ops : Array Oper} {F : Fm}

theorem Oper.wp_noexit {r : Option Nat} {o : Oper} {a : Act} {w : World} {K : Act → World → Prop} {Q : Exit → Act → World → Prop} (h : o.wpIn (fR r) 0 P a w K NoExit) : o.wpIn (fR r) 0 P a w K Q := by
  unfold Oper.wpIn at *
  refine ⟨h.1, ?_⟩
  have h := h.2
  generalize (o.semAt (fR r).round a.eval).run P w = x at *
  cases x with
  | ok n w' =>
    cases n <;> simp only [Oper.uponIn] at h ⊢ <;> first
      | exact h
      | (refine ⟨h.1, CallsIn.mono h.2 fun e w'' he => ?_⟩
         cases e with
         | returned v => exact he
         | panicked c => exact he.elim
         | outgrown => obtain ⟨_, _, hq⟩ := he; exact hq.elim)
      | (refine ⟨h.1, RoundIn.mono h.2 fun e w'' he => ?_⟩
         cases e with
         | returned v => exact he
         | panicked c => exact he.elim
         | outgrown => obtain ⟨_, _, hq⟩ := he; exact hq.elim)
  | halt x w' => cases x <;> simp only [Oper.uponIn] at h ⊢ <;> first | exact h | exact h.elim

theorem wanted_at {s : St} {a : Act} {w : World} {o : Oper} {j g : Nat} {wt b : Bool} (h : Sat F nt s a w) (hg : o.guard = some (j, wt)) (hs : (ops[j]?).bind (·.dst) = some g) (hb : getL s.sl g = some (.v (.bool b))) : Region.wanted o (yielded ops a.tmps) = (b == wt) := by
  obtain ⟨β, h1, h2, h3, _⟩ := h
  have := h3 g _ hb
  simp only [Region.wanted, hg, yielded, hs, Option.bind_some, this]
  cases b <;> cases wt <;> rfl

theorem Ex.steps {l : List Oper} {s s' : St} {ds : List SD} (h : Ex P nt ops l s ds s') : l.length = ds.length ∧ ∀ (i : Nat) o d, l[i]? = some o → ds[i]? = some d → StepG P nt ops o d := by
  induction h with
  | nil => exact ⟨rfl, by simp⟩
  | step hg h k ih =>
    refine ⟨by simp [ih.1], fun i o d ho hd => ?_⟩
    cases i with
    | zero =>
      simp at ho hd
      subst ho
      subst hd
      intro F s a w hs hp
      exact .inl ⟨by simp [Region.wanted, hg], h.ok.2 F s a w hs hp⟩
    | succ i => exact ih.2 i o d (by simpa using ho) (by simpa using hd)
  | yes hg hs hb hw h k ih =>
    refine ⟨by simp [ih.1], fun i o d ho hd => ?_⟩
    cases i with
    | zero =>
      simp at ho hd
      subst ho
      subst hd
      intro F s a w hsat hp
      have hb' := hp.1 _ (List.mem_cons_self ..)
      refine .inl ⟨by rw [wanted_at hsat hg hs hb', hw]; simp, ?_⟩
      exact h.ok.2 F s a w hsat ⟨fun p hp' => hp.1 p (List.mem_cons_of_mem _ hp'), hp.2⟩
    | succ i => exact ih.2 i o d (by simpa using ho) (by simpa using hd)
  | no hg hs hb hw ht hn k ih =>
    refine ⟨by simp [ih.1], fun i o d ho hd => ?_⟩
    cases i with
    | zero =>
      simp at ho hd
      subst ho
      subst hd
      intro F s a w hsat hp
      have hb' := hp.1 _ (List.mem_cons_self ..)
      refine .inr ⟨by rw [wanted_at hsat hg hs hb', hw]; simp, ?_⟩
      rw [ht]
      obtain ⟨β, hsb⟩ := hsat
      exact ⟨β, hsb.put (by simp [Nat.blt] at hn; omega) (by simp [SV.ids])⟩
    | succ i => exact ih.2 i o d (by simpa using ho) (by simpa using hd)
  | noU hg hs hb ht hn k ih =>
    refine ⟨by simp [ih.1], fun i o d ho hd => ?_⟩
    cases i with
    | zero =>
      simp at ho hd
      subst ho
      subst hd
      intro F s a w hsat hp
      have hb' := hp.1 _ (List.mem_cons_self ..)
      refine .inr ⟨yields_undef hsat hg hs hb', ?_⟩
      rw [ht]
      obtain ⟨β, hsb⟩ := hsat
      exact ⟨β, hsb.put (by simp [Nat.blt] at hn; omega) (by simp [SV.ids])⟩
    | succ i => exact ih.2 i o d (by simpa using ho) (by simpa using hd)
  | noS hg hs hb hw ht k ih =>
    refine ⟨by simp [ih.1], fun i o d ho hd => ?_⟩
    cases i with
    | zero =>
      simp at ho hd
      subst ho
      subst hd
      intro F s a w hsat hp
      have hb' := hp.1 _ (List.mem_cons_self ..)
      refine .inr ⟨by rw [wanted_at hsat hg hs hb', hw]; simp, ?_⟩
      rw [ht]
      exact hsat
    | succ i => exact ih.2 i o d (by simpa using ho) (by simpa using hd)

/-- The states on the way. -/
def Way : List SD → St → St → Prop
  | [], s, s' => s = s'
  | d :: ds, s, s' => d.pre s ∧ Way ds (d.app s) s'
theorem Ex.way {l : List Oper} {s s' : St} {ds : List SD} (h : Ex P nt ops l s ds s') : Way ds s s' := by
  induction h with
  | nil => rfl
  | step hg h k ih =>
    obtain ⟨_, h2, rfl⟩ := h
    exact ⟨h2, ih⟩
  | yes hg hs hb hw h k ih =>
    obtain ⟨_, h2, rfl⟩ := h
    exact ⟨⟨fun p hp => (List.mem_cons.1 hp).elim (fun e => by subst e; exact hb) (h2.1 p), h2.2⟩, ih⟩
  | no hg hs hb hw ht hn k ih => exact ⟨⟨by simpa using hb, by simp, by simp⟩, ih⟩
  | noU hg hs hb ht hn k ih => exact ⟨⟨by simpa using hb, by simp, by simp⟩, ih⟩
  | noS hg hs hb hw ht k ih => exact ⟨⟨by simpa using hb, by simp, by simp⟩, ih⟩

theorem wpList_way {Q : Exit → Act → World → Prop} {s' : St} (hQ : ∀ a w, Sat F nt s' a w → Q .normal a w) : ∀ (l : List Oper) (ds : List SD) (s : St) (a : Act) (w : World), l.length = ds.length →
    (∀ (i : Nat) o d, l[i]? = some o → ds[i]? = some d → StepG P nt ops o d) → Way ds s s' → Sat F nt s a w → wpListIn (fR F.rd) 0 P ops Q l a w
  | [], [], s, a, w, _, _, hw, h => by
    have : s = s' := hw
    subst this
    exact hQ a w h
  | o :: l, d :: ds, s, a, w, hl, hst, hw, h => by
    have ih := fun a' w' => wpList_way hQ l ds (d.app s) a' w' (by simpa using hl) (fun i o' d' ho hd => hst (i + 1) o' d' (by simpa using ho) (by simpa using hd)) hw.2
    have h0 := hst 0 o d rfl rfl F s a w h hw.1
    unfold wpListIn
    rcases h0 with ⟨h1, h2⟩ | ⟨h1, h2⟩
    · rw [if_pos h1]
      exact Oper.wpIn_mono (fun a' w' h3 => ih a' w' h3) (Oper.wp_noexit h2)
    · rw [if_neg (by rw [h1]; simp)]
      exact ⟨about_wide, ih _ _ h2⟩
  | [], _ :: _, _, _, _, hl, _, _, _ => by simp at hl
  | _ :: _, [], _, _, _, hl, _, _, _ => by simp at hl

/-! ### Any order -/
theorem SD.pre_eqv {d : SD} {s s' : St} (e : s.eqv s') (h : d.pre s) : d.pre s' :=
  ⟨fun p hp => (e.1 _).symm.trans (h.1 p hp), fun p hp => (e.2 _).symm.trans (h.2.1 p hp), fun i hi => (e.2 _).symm.trans (h.2.2 i hi)⟩
theorem SD.get_sl (d : SD) (s : St) (t : Nat) : getL (d.app s).sl t = if d.dst = some t then some d.v else getL s.sl t := by
  unfold SD.app
  cases hd : d.dst with
  | none => simp
  | some u =>
    simp only [getL_cons]
    by_cases h : u = t <;> simp [h]
theorem SD.get_hp (d : SD) (s : St) (i : Nat) : getL (d.app s).hp i = (getL d.wr i).or (getL s.hp i) := getL_append _ _ _
theorem SD.app_eqv {d : SD} {s s' : St} (e : s.eqv s') : (d.app s).eqv (d.app s') :=
  ⟨fun t => by rw [d.get_sl, d.get_sl, e.1], fun i => by rw [d.get_hp, d.get_hp, e.2]⟩

structure Sh where
  dst : Option Nat
  look : List Nat
  tch : List Nat
  wrs : List Nat
def SD.sh (d : SD) : Sh := ⟨d.dst, d.ins.map (·.1), d.hin.map (·.1) ++ d.fr, d.wr.map (·.1)⟩
def disj (l m : List Nat) : Bool := l.all fun x => !m.contains x
def offD (d : Option Nat) (l : List Nat) : Bool := match d with
  | some t => !l.contains t
  | none => true
def Sh.apart (x y : Sh) : Bool :=
  offD x.dst y.look && offD y.dst x.look && (x.dst.isNone || x.dst != y.dst) && disj x.wrs y.tch && disj x.wrs y.wrs && disj y.wrs x.tch
theorem disj_spec {l m : List Nat} (h : disj l m = true) : ∀ x ∈ l, x ∉ m := by
  intro x hx hm
  have := List.all_eq_true.1 h x hx
  simp at this
  exact this hm
theorem getL_none {α : Type _} {l : List (Nat × α)} {i : Nat} (h : i ∉ l.map (·.1)) : getL l i = none := by
  cases hg : getL l i with
  | none => rfl
  | some v => exact absurd (List.mem_map.2 ⟨(i, v), getL_mem hg, rfl⟩) h
theorem getL_some_mem {α : Type _} {l : List (Nat × α)} {i : Nat} {v : α} (h : getL l i = some v) : i ∈ l.map (·.1) := List.mem_map.2 ⟨(i, v), getL_mem h, rfl⟩

theorem apart_swap {x y : SD} (h : x.sh.apart y.sh = true) (s : St) : (y.app (x.app s)).eqv (x.app (y.app s)) ∧ (y.pre (x.app s) → y.pre s) ∧ (x.pre s → x.pre (y.app s)) := by
  simp only [Sh.apart, Bool.and_eq_true] at h
  obtain ⟨⟨⟨⟨⟨h1, h2⟩, h3⟩, h4⟩, h5⟩, h6⟩ := h
  have h4 := disj_spec h4
  have h5 := disj_spec h5
  have h6 := disj_spec h6
  have k1 : ∀ p ∈ y.ins, x.dst ≠ some p.1 := by
    intro p hp e
    rw [show x.sh.dst = some p.1 from e] at h1
    simp [offD, SD.sh] at h1
    exact h1 p.2 hp
  have k2 : ∀ p ∈ x.ins, y.dst ≠ some p.1 := by
    intro p hp e
    rw [show y.sh.dst = some p.1 from e] at h2
    simp [offD, SD.sh] at h2
    exact h2 p.2 hp
  have k3 : ∀ t, x.dst = some t → y.dst ≠ some t := by
    intro t hx hy
    simp [SD.sh, hx, hy] at h3
  have k4 : ∀ i ∈ y.hin.map (·.1) ++ y.fr, getL x.wr i = none := fun i hi => getL_none (fun hx => h4 i hx hi)
  have k6 : ∀ i ∈ x.hin.map (·.1) ++ x.fr, getL y.wr i = none := fun i hi => getL_none (fun hx => h6 i hx hi)
  refine ⟨⟨fun t => ?_, fun i => ?_⟩, fun hp => ⟨fun p hp' => ?_, fun p hp' => ?_, fun i hi => ?_⟩, fun hp => ⟨fun p hp' => ?_, fun p hp' => ?_, fun i hi => ?_⟩⟩
  · rw [y.get_sl, x.get_sl, x.get_sl, y.get_sl]
    by_cases hx : x.dst = some t
    · have := k3 t hx
      simp [hx, this]
    · simp [hx]
  · rw [y.get_hp, x.get_hp, x.get_hp, y.get_hp]
    cases hx : getL x.wr i with
    | none => simp
    | some c =>
      have : getL y.wr i = none := getL_none (fun hy => h5 i (getL_some_mem hx) hy)
      simp [this]
  · have := hp.1 p hp'
    rwa [x.get_sl, if_neg (k1 p hp')] at this
  · have := hp.2.1 p hp'
    rwa [x.get_hp, k4 p.1 (List.mem_append_left _ (List.mem_map.2 ⟨p, hp', rfl⟩)), Option.none_or] at this
  · have := hp.2.2 i hi
    rwa [x.get_hp, k4 i (List.mem_append_right _ hi), Option.none_or] at this
  · rw [y.get_sl, if_neg (k2 p hp')]
    exact hp.1 p hp'
  · rw [y.get_hp, k6 p.1 (List.mem_append_left _ (List.mem_map.2 ⟨p, hp', rfl⟩)), Option.none_or]
    exact hp.2.1 p hp'
  · rw [y.get_hp, k6 i (List.mem_append_right _ hi), Option.none_or]
    exact hp.2.2 i hi

def AnyX (ops : Array Oper) (ds : List SD) (sf : St) : Nat → Array Bool → St → Prop
  | 0, listed, s => Region.ready .any ops listed = [] ∧ s.eqv sf
  | f + 1, listed, s => (Region.ready .any ops listed = [] → s.eqv sf) ∧ ∀ i ∈ Region.ready .any ops listed, ∃ d, ds[i]? = some d ∧ d.pre s ∧ AnyX ops ds sf f (listed.setIfInBounds i true) (d.app s)
theorem AnyX.eqv {ds : List SD} {sf : St} : ∀ {f : Nat} {listed : Array Bool} {s s' : St}, s.eqv s' → AnyX ops ds sf f listed s → AnyX ops ds sf f listed s'
  | 0, _, _, _, e, h => ⟨h.1, e.symm.trans h.2⟩
  | f + 1, _, _, _, e, h => ⟨fun h0 => e.symm.trans (h.1 h0), fun i hi => by
      obtain ⟨d, h1, h2, h3⟩ := h.2 i hi
      exact ⟨d, h1, SD.pre_eqv e h2, AnyX.eqv (SD.app_eqv e) h3⟩⟩

theorem AnyX.sound {ds : List SD} {sf : St} {Q : Exit → Act → World → Prop} (hQ : ∀ a w, Sat F nt sf a w → Q .normal a w) (hst : ∀ (i : Nat) o d, ops[i]? = some o → ds[i]? = some d → StepG P nt ops o d) :
    ∀ (f : Nat) (listed : Array Bool) (s : St) (a : Act) (w : World), AnyX ops ds sf f listed s → Sat F nt s a w → wpAnyIn (fR F.rd) 0 P .any ops Q f listed a w
  | 0, _, _, a, w, h, hs => ⟨h.1, hQ a w (hs.eqv h.2)⟩
  | f + 1, listed, s, a, w, h, hs => by
    refine ⟨fun h0 => hQ a w (hs.eqv (h.1 h0)), fun i hi => ?_⟩
    obtain ⟨d, h1, h2, h3⟩ := h.2 i hi
    obtain ⟨_, o, ho, _⟩ := mem_ready.1 hi
    unfold wpOpIn
    simp only [ho]
    rcases hst i o d ho h1 F s a w hs h2 with ⟨k1, k2⟩ | ⟨k1, k2⟩
    · rw [if_pos k1]
      exact Oper.wpIn_mono (fun a' w' hh => AnyX.sound hQ hst f _ _ a' w' h3 hh) (Oper.wp_noexit k2)
    · rw [if_neg (by rw [k1]; simp)]
      exact ⟨about_wide, AnyX.sound hQ hst f _ _ _ _ h3 k2⟩

/-- Who comes ahead of an operation, at once or by others. -/
inductive Anc (ops : Array Oper) : Nat → Nat → Prop
  | base {j k : Nat} {o : Oper} {e : Edge} (ho : ops[j]? = some o) (he : e ∈ o.after) (hb : Region.binds .any e = true) (hk : e.on = k) : Anc ops j k
  | step {j i k : Nat} {o : Oper} {e : Edge} (ho : ops[j]? = some o) (he : e ∈ o.after) (hb : Region.binds .any e = true) (hk : e.on = k) (h : Anc ops k i) : Anc ops j i
def DownL (ops : Array Oper) (listed : Array Bool) : Prop := ∀ (j : Nat) (o : Oper) e, listed.getD j false = true → ops[j]? = some o → e ∈ o.after → Region.binds .any e = true → listed.getD e.on false = true
theorem Anc.listed {listed : Array Bool} (hd : DownL ops listed) {j i : Nat} (h : Anc ops j i) : listed.getD j false = true → listed.getD i false = true := by
  induction h with
  | base ho he hb hk => intro hj; rw [← hk]; exact hd _ _ _ hj ho he hb
  | step ho he hb hk h ih => intro hj; exact ih (by rw [← hk]; exact hd _ _ _ hj ho he hb)
theorem getD_of {listed : Array Bool} {i : Nat} (h : listed.getD i true = false) : listed.getD i false = false := by
  rcases Nat.lt_or_ge i listed.size with h' | h'
  · simp [h'] at h ⊢; exact h
  · simp [Array.getElem?_eq_none h'] at h
theorem notAnc {listed : Array Bool} (hd : DownL ops listed) {i j : Nat} (hj : j ∈ Region.ready .any ops listed) (hi : listed.getD i true = false) : ¬ Anc ops j i := by
  intro h
  obtain ⟨_, o, ho, hall⟩ := mem_ready.1 hj
  have hi' := getD_of hi
  cases h with
  | base ho' he hb hk =>
    rw [ho] at ho'
    injection ho' with ho'
    subst ho'
    have := hall _ he hb
    rw [hk, hi'] at this
    cases this
  | step ho' he hb hk h =>
    rw [ho] at ho'
    injection ho' with ho'
    subst ho'
    have h1 := hall _ he hb
    rw [hk] at h1
    have := h.listed hd h1
    rw [hi'] at this
    cases this
theorem down_set {listed : Array Bool} (hd : DownL ops listed) {i : Nat} (hi : i ∈ Region.ready .any ops listed) : DownL ops (listed.setIfInBounds i true) := by
  intro j o e hj ho he hb
  by_cases hij : i = j
  · subst hij
    obtain ⟨_, o', ho', hall⟩ := mem_ready.1 hi
    rw [ho] at ho'
    injection ho' with ho'
    subst ho'
    exact getD_set_true (hall e he hb)
  · rw [getD_set_ne false hij] at hj
    exact getD_set_true (hd j o e hj ho he hb)

theorem AnyX.first {ds : List SD} {sf : St} {i : Nat} {di : SD} (hdi : ds[i]? = some di) :
    ∀ (f : Nat) (listed : Array Bool) (s : St), DownL ops listed →
      (∀ j dj, ds[j]? = some dj → j ≠ i → listed.getD j true = false → Anc ops j i ∨ di.sh.apart dj.sh = true) →
      i ∈ Region.ready .any ops listed → di.pre s → AnyX ops ds sf f (listed.setIfInBounds i true) (di.app s) → AnyX ops ds sf (f + 1) listed s := by
  intro f
  induction f with
  | zero =>
    intro listed s hdn hfree hr hp H
    refine ⟨fun h => (by rw [h] at hr; cases hr), fun j hj => ?_⟩
    by_cases hji : j = i
    · subst hji
      exact ⟨di, hdi, hp, H⟩
    · have := ready_mono hj hji
      rw [H.1] at this
      cases this
  | succ f ih =>
    intro listed s hdn hfree hr hp H
    refine ⟨fun h => (by rw [h] at hr; cases hr), fun j hj => ?_⟩
    by_cases hji : j = i
    · subst hji
      exact ⟨di, hdi, hp, H⟩
    · obtain ⟨dj, hdj, hpj, hj2⟩ := H.2 j (ready_mono hj hji)
      have hjun := (mem_ready.1 hj).1
      have hiun := (mem_ready.1 hr).1
      have hap := (hfree j dj hdj hji hjun).resolve_left (notAnc hdn hj hiun)
      obtain ⟨s1, s2, s3⟩ := apart_swap hap s
      refine ⟨dj, hdj, s2 hpj, ?_⟩
      refine ih (listed.setIfInBounds j true) (dj.app s) (down_set hdn hj) (fun k dk hk hki hun => hfree k dk hk hki ?_) (ready_mono hr (Ne.symm hji)) (s3 hp) ?_
      · by_cases hjk : j = k
        · subst hjk; exact hjun
        · rwa [getD_set_ne true hjk] at hun
      · rw [Array.setIfInBounds_comm _ _ hji]
        exact AnyX.eqv s1 hj2
end
end Go.Proofs.Ytiboffhdabeiiaa

/-
  The symbolic state: drawn regions in the text's order; control. Plain lemmas over any program.
-/
namespace Go.Proofs.Ytiboffhdabeiiaa
open Go Go.RowKit

def ancOf (acc : List (List Nat)) (o : Oper) : List Nat := ((o.after.toList.filter fun e => Region.binds .any e).flatMap fun e => e.on :: acc.getD e.on []).eraseDups
def ancsGo : List (List Nat) → List Oper → List (List Nat)
  | acc, [] => acc
  | acc, o :: l => ancsGo (acc ++ [ancOf acc o]) l
def chkGo : Nat → List Oper → List Sh → List (List Nat) → Bool
  | k, o :: l, s :: ss, _ :: as => (o.after.all fun e => !Region.binds .any e || Nat.blt e.on k) && (ss.zip as).all (fun p => p.2.contains k || s.apart p.1) && chkGo (k + 1) l ss as
  | _, [], [], [] => true
  | _, _, _, _ => false

section
variable {P : Program} {nt : Nat} {F : Fm}

theorem ancsGo_spec {ops : Array Oper} : ∀ (l : List Oper) (acc : List (List Nat)), (∀ (i : Nat), l[i]? = ops[acc.length + i]?) → (∀ (j : Nat) s, acc[j]? = some s → ∀ i ∈ s, Anc ops j i) → ∀ (j : Nat) s, (ancsGo acc l)[j]? = some s → ∀ i ∈ s, Anc ops j i
  | [], acc, _, ha => ha
  | o :: l, acc, hl, ha => by
    refine ancsGo_spec l (acc ++ [ancOf acc o]) (fun i => ?_) (fun j s hj i hi => ?_)
    · have := hl (i + 1)
      simp only [List.getElem?_cons_succ] at this
      rw [this]
      simp [Nat.add_assoc, Nat.add_comm 1]
    · rcases Nat.lt_or_ge j acc.length with h | h
      · rw [List.getElem?_append_left h] at hj
        exact ha j s hj i hi
      · rw [List.getElem?_append_right h] at hj
        have hj0 : j - acc.length = 0 := by
          have := (List.getElem?_eq_some_iff.1 hj).1
          simp at this
          omega
        have hje : j = acc.length := by omega
        subst hje
        simp at hj
        subst hj
        have ho : ops[acc.length]? = some o := by simpa using (hl 0).symm
        simp only [ancOf, List.mem_eraseDups, List.mem_flatMap, List.mem_filter] at hi
        obtain ⟨e, ⟨he, hb⟩, hi⟩ := hi
        rcases List.mem_cons.1 hi with rfl | hi
        · exact Anc.base ho (Array.mem_toList_iff.1 he) hb rfl
        · refine Anc.step ho (Array.mem_toList_iff.1 he) hb rfl ?_
          cases hq : acc[e.on]? with
          | none => simp [List.getD_eq_getElem?_getD, hq] at hi
          | some s' =>
            simp [List.getD_eq_getElem?_getD, hq] at hi
            exact ha _ _ hq i hi

theorem AnyX.lex {ops : Array Oper} {sf : St} : ∀ (l : List Oper) (ds : List SD) (as : List (List Nat)) (k : Nat) (all : List SD) (listed : Array Bool) (s : St),
    (∀ (i : Nat), l[i]? = ops[k + i]?) → (∀ (i : Nat), ds[i]? = all[k + i]?) → (∀ (i : Nat) s, as[i]? = some s → ∀ q ∈ s, Anc ops (k + i) q) → l.length = ds.length → all.length = ops.size → listed.size = ops.size →
    (∀ j, j < ops.size → listed.getD j false = decide (j < k)) → k ≤ ops.size → DownL ops listed → chkGo k l (ds.map SD.sh) as = true → Way ds s sf → AnyX ops all sf l.length listed s
  | [], [], as, k, all, listed, s, hl, hd, ha, hlen, hall, hsz, hli, hk, hdn, hc, hw => by
    have hke : ops.size ≤ k := by
      have := hl 0
      simp at this
      have h2 := this
      omega
    refine ⟨?_, ?_⟩
    · cases hr : Region.ready .any ops listed with
      | nil => rfl
      | cons i r =>
        have hi : i ∈ Region.ready .any ops listed := by rw [hr]; simp
        obtain ⟨h1, o, ho, _⟩ := mem_ready.1 hi
        have hlt := (Array.getElem?_eq_some_iff.1 ho).1
        have h2 := hli i hlt
        rw [getD_of h1] at h2
        simp at h2
        omega
    · have : s = sf := hw
      subst this
      exact St.eqv.refl s
  | o :: l, d :: ds, a :: as, k, all, listed, s, hl, hd, ha, hlen, hall, hsz, hli, hk, hdn, hc, hw => by
    simp only [chkGo, List.map_cons, Bool.and_eq_true] at hc
    obtain ⟨⟨hc1, hc2⟩, hc3⟩ := hc
    have hok : ops[k]? = some o := by simpa using (hl 0).symm
    have hdk : all[k]? = some d := by simpa using (hd 0).symm
    have hkl : k < ops.size := (Array.getElem?_eq_some_iff.1 hok).1
    have hun : listed.getD k true = false := by
      have := hli k hkl
      have hks : k < listed.size := by omega
      simp [hks] at this ⊢
      exact this
    have hedge : ∀ e ∈ o.after, Region.binds .any e = true → e.on < k := by
      intro e he hb
      have := Array.all_eq_true_iff_forall_mem.1 hc1 e he
      simp [hb, Nat.blt] at this
      omega
    have hr : k ∈ Region.ready .any ops listed := mem_ready.2 ⟨hun, o, hok, fun e he hb => by
      have := hedge e he hb
      rw [hli e.on (by omega)]
      simpa using this⟩
    refine AnyX.first hdk l.length listed s hdn (fun j dj hdj hne hjun => ?_) hr hw.1 ?_
    · have hjl : j < all.length := (List.getElem?_eq_some_iff.1 hdj).1
      have hjk : k < j := by
        have h1 := hli j (by omega)
        rw [getD_of hjun] at h1
        simp at h1
        omega
      have hi : ds[j - (k + 1)]? = some dj := by
        have := hd (j - k)
        rw [show k + (j - k) = j by omega, hdj] at this
        rw [show j - k = (j - (k + 1)) + 1 by omega] at this
        simpa using this
      have hjlt : j - (k + 1) < as.length := by
        have h1 := congrArg (fun _ => ()) hc3
        have h2 : (ds.map SD.sh).length = as.length := by
          clear hc1 hc2 h1
          have gen : ∀ (l : List Oper) (ss : List Sh) (as : List (List Nat)) (k : Nat), chkGo k l ss as = true → ss.length = as.length := by
            intro l
            induction l with
            | nil =>
              intro ss as k h
              cases ss <;> cases as <;> simp [chkGo] at h ⊢
            | cons o l ih =>
              intro ss as k h
              cases ss <;> cases as <;> simp [chkGo] at h ⊢
              exact ih _ _ _ h.2
          exact gen _ _ _ _ hc3
        have h3 := (List.getElem?_eq_some_iff.1 hi).1
        simp at h2
        omega
      have hp : (dj.sh, as[j - (k + 1)]) ∈ (ds.map SD.sh).zip as := by
        refine List.mem_of_getElem? (i := j - (k + 1)) ?_
        rw [List.getElem?_zip_eq_some]
        exact ⟨by simp [hi], List.getElem?_eq_getElem hjlt⟩
      have := List.all_eq_true.1 hc2 _ hp
      simp only [Bool.or_eq_true] at this
      rcases this with h | h
      · refine .inl ?_
        have h4 := ha (j - k) as[j - (k + 1)] (by rw [show j - k = (j - (k + 1)) + 1 by omega]; simp [List.getElem?_eq_getElem hjlt]) k (by simpa using h)
        rwa [show k + (j - k) = j by omega] at h4
      · exact .inr h
    · refine AnyX.lex l ds as (k + 1) all (listed.setIfInBounds k true) (d.app s) (fun i => ?_) (fun i => ?_) (fun i s hi q hq => ?_) (by simpa using hlen) hall (by simpa using hsz) (fun j hj => ?_) (by omega) (down_set hdn hr) hc3 hw.2
      · have := hl (i + 1)
        simp only [List.getElem?_cons_succ] at this
        rw [this]
        congr 1
        omega
      · have := hd (i + 1)
        simp only [List.getElem?_cons_succ] at this
        rw [this]
        congr 1
        omega
      · have := ha (i + 1) s (by simpa using hi) q hq
        rwa [show k + (i + 1) = k + 1 + i by omega] at this
      · by_cases hjk : k = j
        · subst hjk
          have hks : k < listed.size := by omega
          simp [hks]
        · rw [getD_set_ne false hjk, hli j hj]
          have : (j < k) ↔ (j < k + 1) := by omega
          simp [this]
  | o :: l, d :: ds, [], k, all, listed, s, hl, hd, ha, hlen, hall, hsz, hli, hk, hdn, hc, hw => by simp [chkGo] at hc
  | [], _ :: _, _, _, _, _, _, _, _, _, hlen, _, _, _, _, _, _, _ => by simp at hlen
  | _ :: _, [], _, _, _, _, _, _, _, _, hlen, _, _, _, _, _, _, _ => by simp at hlen

theorem repl_false (n j : Nat) : (Array.replicate n false).getD j false = false := by
  simp only [Array.getD_eq_getD_getElem?, Array.getElem?_replicate]
  split <;> rfl

theorem wp_plain {l : List Oper} {ds : List SD} {s s' : St} {id : Nat} {Q : Exit → Act → World → Prop} {a : Act} {w : World} (hex : Ex P nt l.toArray l s ds s') (hs : Sat F nt s a w) (hQ : ∀ a w, Sat F nt s' a w → Q .normal a w) :
    (Code.region id l.toArray false).wpIn (fR F.rd) 0 P Q a w := by
  obtain ⟨h1, h2⟩ := hex.steps
  exact wpIn_region_lit (wpList_way hQ l ds s a w h1 h2 hex.way hs)
theorem wp_draw (hm : P.follows .mixedOrders = true) {l : List Oper} {ds : List SD} {s s' : St} {id : Nat} {Q : Exit → Act → World → Prop} {a : Act} {w : World} (hex : Ex P nt l.toArray l s ds s') (hchk : chkGo 0 l (ds.map SD.sh) (ancsGo [] l) = true)
    (hs : Sat F nt s a w) (hQ : ∀ a w, Sat F nt s' a w → Q .normal a w) : (Code.region id l.toArray true).wpIn (fR F.rd) 0 P Q a w := by
  obtain ⟨h1, h2⟩ := hex.steps
  refine wpIn_region_any hm (AnyX.sound (F := F) (nt := nt) hQ (ds := ds) (fun i o d ho hd => h2 i o d (by simpa using ho) hd) _ _ s a _ ?_ hs.drew)
  have := AnyX.lex (ops := l.toArray) (sf := s') l ds (ancsGo [] l) 0 ds (Array.replicate l.toArray.size false) s (by simp) (by simp) (fun i s hi q hq => ?_) h1 (by simp [h1]) (by simp) (fun j hj => by rw [repl_false]; simp) (by omega) ?_ hchk hex.way
  · simpa using this
  · rw [Nat.zero_add]
    exact ancsGo_spec l [] (by simp) (by simp) i s hi q hq
  · intro j o e hj
    rw [repl_false] at hj
    cases hj
end

/-! ### Control -/
inductive It where
  | code (c : Code)
  | endB (id : Nat)

section
variable {P : Program}
def wpIt (r : Option Nat) (P : Program) : List It → (Exit → Act → World → Prop) → Exit → Act → World → Prop
  | [], Q, e, a, w => Q e a w
  | .code c :: k, Q, .normal, a, w => c.wpIn (fR r) 0 P (wpIt r P k Q) a w
  | .code _ :: k, Q, .exit id, a, w => wpIt r P k Q (.exit id) a w
  | .endB _ :: k, Q, .normal, a, w => wpIt r P k Q .normal a w
  | .endB i :: k, Q, .exit id, a, w => if id = i then wpIt r P k Q .normal a w else wpIt r P k Q (.exit id) a w
  | _ :: k, Q, e, a, w => wpIt r P k Q e a w

variable {r : Option Nat} {Q Q' : Exit → Act → World → Prop} {a : Act} {w : World}
theorem wpIt_mono (hq : ∀ e a w, Q e a w → Q' e a w) : ∀ (k : List It) (e : Exit) (a : Act) (w : World), wpIt r P k Q e a w → wpIt r P k Q' e a w
  | [], e, a, w, h => hq e a w h
  | .code c :: k, e, a, w, h => by
    cases e <;> simp only [wpIt] at h ⊢ <;> first
      | exact Code.wpIn_mono (fun e a w h => wpIt_mono hq k e a w h) h
      | exact wpIt_mono hq k _ a w h
  | .endB i :: k, e, a, w, h => by
    cases e <;> simp only [wpIt] at h ⊢ <;> first
      | exact wpIt_mono hq k _ a w h
      | (split
         · rename_i hi; rw [if_pos hi] at h; exact wpIt_mono hq k _ a w h
         · rename_i hi; rw [if_neg hi] at h; exact wpIt_mono hq k _ a w h)
theorem wpIt_seq {x y : Code} {k : List It} (h : wpIt r P (.code x :: .code y :: k) Q .normal a w) : wpIt r P (.code (.seq x y) :: k) Q .normal a w := by
  simp only [wpIt] at h ⊢
  refine wpIn_seq (Code.wpIn_mono (fun e a w h => ?_) h)
  cases e <;> simp only [wpIt, Exit.then] at h ⊢ <;> exact h
theorem wpIt_block {id : Nat} {c : Code} {k : List It} (h : wpIt r P (.code c :: .endB id :: k) Q .normal a w) : wpIt r P (.code (.block id c) :: k) Q .normal a w := by
  simp only [wpIt] at h ⊢
  refine wpIn_block (Code.wpIn_mono (fun e a w h => ?_) h)
  cases e <;> simp only [wpIt, Exit.inBlock] at h ⊢ <;> exact h
def exitK (id : Nat) : List It → Option (List It)
  | [] => none
  | .code _ :: k => exitK id k
  | .endB i :: k => bif Nat.beq id i then some k else exitK id k
theorem wpIt_exit {id : Nat} : ∀ {k k' : List It}, exitK id k = some k' → wpIt r P k' Q .normal a w → wpIt r P k Q (.exit id) a w
  | .code _ :: k, k', h, hh => by simp only [wpIt]; exact wpIt_exit (by simpa [exitK] using h) hh
  | .endB i :: k, k', h, hh => by
    simp only [exitK] at h
    simp only [wpIt]
    cases hb : Nat.beq id i
    · rw [hb] at h
      rw [if_neg (fun e => by subst e; simp at hb)]
      exact wpIt_exit h hh
    · rw [hb] at h
      simp at h
      subst h
      rw [if_pos (Nat.eq_of_beq_eq_true hb)]
      exact hh
theorem wpIt_exitOut {id : Nat} : ∀ {k : List It}, exitK id k = none → Q (.exit id) a w → wpIt r P k Q (.exit id) a w
  | [], _, hh => hh
  | .code _ :: k, h, hh => by simp only [wpIt]; exact wpIt_exitOut (by simpa [exitK] using h) hh
  | .endB i :: k, h, hh => by
    simp only [exitK] at h
    simp only [wpIt]
    cases hb : Nat.beq id i
    · rw [hb] at h
      rw [if_neg (fun e => by subst e; simp at hb)]
      exact wpIt_exitOut h hh
    · rw [hb] at h
      simp at h
theorem wpIt_ret : ∀ {k : List It}, Q .ret a w → wpIt r P k Q .ret a w
  | [], h => h
  | .code _ :: k, h => by simp only [wpIt]; exact wpIt_ret h
  | .endB _ :: k, h => by simp only [wpIt]; exact wpIt_ret h
end
end Go.Proofs.Ytiboffhdabeiiaa

/-
  The symbolic state: the judgement over code, weakening, loops, calls. Plain lemmas over any program.
-/
namespace Go.Proofs.Ytiboffhdabeiiaa
open Go Go.RowKit

structure TL (P : Program) (nt : Nat) (fx : List Nat) (items : List It) (s : St) (K : Exit → St → Prop) : Prop where
  run : ∀ F a w, F.fx = fx → Sat F nt s a w → wpIt F.rd P items (fun e a' w' => ∃ s', K e s' ∧ Sat F nt s' a' w') .normal a w

/-- What lies behind one name serves as something else. -/
inductive ChLe : Chunk → Chunk → Prop
  | refl (c : Chunk) : ChLe c c
  | ro {α : Type} {c : Chunk} {E : Enc α} {l : List α} [h : RowC c E l] : ChLe c (.ro E l)
  | dead (c : Chunk) : ChLe c .dead
  | om {α : Type} {e : TypeId} {E : Enc α} {l : List α} : ChLe (.own e E l) (.mt E l)
def LeS (ρ : Nat → Nat) (sl' : List (Nat × SV)) : List (Nat × SV) → Prop
  | [] => True
  | (t, x) :: l => getL sl' t = some (x.ren ρ) ∧ LeS ρ sl' l
def LeH (ρ : Nat → Nat) (hp' : List (Nat × Chunk)) : List (Nat × Chunk) → Prop
  | [] => True
  | (i, c) :: l => (∃ c', getL hp' (ρ i) = some c' ∧ ChLe c' (c.ren ρ)) ∧ LeH ρ hp' l
def nodupB : List Nat → Bool
  | [] => true
  | x :: l => !l.contains x && nodupB l
def inB' {α : Type _} (hp : List (Nat × α)) (i : Nat) : Bool := (getL hp i).isSome
def closedB (s : St) : Bool := s.sl.all (fun p => p.2.ids.all (inB' s.hp)) && s.hp.all (fun p => p.2.ids.all (inB' s.hp))
def fxB (fx : List Nat) (ρ : Nat → Nat) (hp : List (Nat × Chunk)) : Bool := fx.all fun i => inB' hp i && Nat.beq (ρ i) i
structure Le (fx : List Nat) (ρ : Nat → Nat) (s' s : St) : Prop where
  sl : LeS ρ s'.sl s.sl
  hp : LeH ρ s'.hp s.hp
  ck : (closedB s && nodupB (s.hp.map fun p => ρ p.1) && fxB fx ρ s.hp) = true
theorem LeS.at_ {ρ : Nat → Nat} {sl' : List (Nat × SV)} : ∀ {sl : List (Nat × SV)} {t : Nat} {x : SV}, LeS ρ sl' sl → getL sl t = some x → getL sl' t = some (x.ren ρ)
  | (k, y) :: l, t, x, h, hg => by
    rw [getL_cons] at hg
    split at hg
    · rename_i e
      subst e
      injection hg with hg
      subst hg
      exact h.1
    · exact LeS.at_ h.2 hg
theorem LeH.at_ {ρ : Nat → Nat} {hp' : List (Nat × Chunk)} : ∀ {hp : List (Nat × Chunk)} {i : Nat} {c : Chunk}, LeH ρ hp' hp → getL hp i = some c → ∃ c', getL hp' (ρ i) = some c' ∧ ChLe c' (c.ren ρ)
  | (k, y) :: l, i, c, h, hg => by
    rw [getL_cons] at hg
    split at hg
    · rename_i e
      subst e
      injection hg with hg
      subst hg
      exact h.1
    · exact LeH.at_ h.2 hg
theorem nodupB_spec {α : Type _} {f : Nat × α → Nat} : ∀ {l : List (Nat × α)}, nodupB (l.map f) = true → ∀ p ∈ l, ∀ q ∈ l, p.1 ≠ q.1 → f p ≠ f q
  | [], _, p, hp, _, _, _ => by simp at hp
  | x :: l, h, p, hp, q, hq, hne => by
    simp only [List.map_cons, nodupB, Bool.and_eq_true] at h
    obtain ⟨h1, h2⟩ := h
    have h1' : ∀ y ∈ l, f x ≠ f y := by
      intro y hy e
      simp at h1
      exact h1 y.1 y.2 hy e.symm
    rcases List.mem_cons.1 hp with hp1 | hp1
    · rcases List.mem_cons.1 hq with hq1 | hq1
      · exact absurd (by rw [hp1, hq1]) hne
      · rw [hp1]
        exact h1' q hq1
    · rcases List.mem_cons.1 hq with hq1 | hq1
      · rw [hq1]
        exact fun e => h1' p hp1 e.symm
      · exact nodupB_spec h2 p hp1 q hq1 hne
theorem closedB_spec {s : St} (h : closedB s = true) : Closed s := by
  simp only [closedB, Bool.and_eq_true] at h
  refine ⟨fun t x ht i hi => ?_, fun i c hc j hj => ?_⟩
  · exact List.all_eq_true.1 (List.all_eq_true.1 h.1 _ (getL_mem ht)) i hi
  · exact List.all_eq_true.1 (List.all_eq_true.1 h.2 _ (getL_mem hc)) j hj

section
variable {P : Program} {nt : Nat} {fx : List Nat} {F : Fm} {β : Nat → BI} {s s' : St} {a : Act} {w : World} {id : Nat} {c c' : Chunk} {ρ : Nat → Nat}

theorem ChOk.ren (h : ChOk F β (ρ id) w (c.ren ρ)) : ChOk F (fun i => β (ρ i)) id w c := by
  cases c with
  | cells t cs =>
    simp only [Chunk.ren, ChOk] at h ⊢
    rwa [denL_ren] at h
  | lp I sl st pe =>
    simp only [Chunk.ren, ChOk] at h ⊢
    obtain ⟨fn, tmps, D, ⟨h1, h2, h3⟩, h4⟩ := h
    exact ⟨fn, tmps, D, ⟨h1, h2, SlOk.ren.1 h3⟩, h4⟩
  | _ => exact h
theorem Wr.ren {g : Nat} (h : Wr (fun i => β (ρ i)) id c g) : Wr β (ρ id) (c.ren ρ) g := by cases c <;> exact h
theorem Bl.ren {g : Nat} (h : Bl (fun i => β (ρ i)) id c g) : Bl β (ρ id) (c.ren ρ) g := by cases c <;> exact h
/-- A row of one's own is one that may be written. -/
theorem own_mt {α : Type} {e : TypeId} {E : Enc α} {l : List α} (h : ChOk F β id w (.own e E l)) : ChOk F β id w (.mt E l) := by
  have hr : RdOk β id w E l := RowC.read (c := .own e E l) inferInstance h
  refine ⟨hr, fun hl => ⟨h.2.2.1 (hr hl).1.1, fun j _ => ?_⟩⟩
  have ho := h.1
  simp only [BI.ad, (hr hl).1.1, cond_false, h.2.1] at ho
  exact ho.frozenAt _
theorem ChLe.ok (h : ChLe c' c) (hc : ChOk F β id w c') : ChOk F β id w c := by
  cases h with
  | refl => exact hc
  | ro => exact RowC.read ‹_› hc
  | dead => trivial
  | om => exact own_mt hc
theorem ChLe.wr {g : Nat} (h : ChLe c' c) (hok : ChOk F β id w c') (hc : Wr β id c g) : Wr β id c' g := by
  cases h with
  | refl => exact hc
  | ro => exact hc.elim
  | dead => exact hc.elim
  | om => exact ⟨((own_mt hok).1 hc.1).1.1, hc.2⟩
theorem ChLe.bl {g : Nat} (h : ChLe c' c) (hok : ChOk F β id w c') (hc : Bl β id c g) : Bl β id c' g := by
  cases h with
  | refl => exact hc
  | ro =>
    rename_i α E l hr
    have hrd := hr.read hok
    obtain ⟨hl, rfl⟩ := hc
    rcases hr.h with rfl | rfl | ⟨e, rfl⟩
    · exact ⟨hl, rfl⟩
    · exact ⟨hl, rfl⟩
    · exact ⟨(hrd hl).1.1, rfl⟩
  | dead => exact hc.elim
  | om => exact ⟨((own_mt hok).1 hc.1).1.1, hc.2⟩

theorem Sat.le (h : Sat F nt s' a w) (hle : Le fx ρ s' s) (hf : F.fx = fx) : Sat F nt s a w := by
  obtain ⟨β, h1, h2, h3, h4, h5, h6⟩ := h
  obtain ⟨l1, l2, l3⟩ := hle
  simp only [Bool.and_eq_true] at l3
  obtain ⟨⟨c1, c2⟩, c3⟩ := l3
  refine ⟨fun i => β (ρ i), ⟨h1.1, fun i hi => ?_⟩, h2, ?_, ⟨?_, ?_⟩, closedB_spec c1, h6⟩
  · have := List.all_eq_true.1 c3 i (by rw [← hf]; exact hi)
    simp only [Bool.and_eq_true] at this
    refine ⟨this.1, ?_⟩
    show β (ρ i) = _
    rw [Nat.eq_of_beq_eq_true this.2]
    exact (h1.2 i hi).2
  · intro t x ht
    rw [h3 t _ (l1.at_ ht), SV.den_ren]
  · intro i c hc
    obtain ⟨c', hc', hl⟩ := l2.at_ hc
    exact (hl.ok (h4.1 _ _ hc')).ren
  · intro i j ci cj hne hi hj g hw hb
    obtain ⟨ci', hci', hli⟩ := l2.at_ hi
    obtain ⟨cj', hcj', hlj⟩ := l2.at_ hj
    have hn := nodupB_spec c2 _ (getL_mem hi) _ (getL_mem hj) hne
    exact h4.2 _ _ _ _ hn hci' hcj' g (hli.wr (h4.1 _ _ hci') hw.ren) (hlj.bl (h4.1 _ _ hcj') hb.ren)

variable {k : List It} {K : Exit → St → Prop}
theorem TL.weaken (h : Le fx ρ s' s) (hk : TL P nt fx k s K) : TL P nt fx k s' K := .mk fun F a w hf hs => hk.run F a w hf (hs.le h hf)
theorem TL.seq {x y : Code} (h : TL P nt fx (.code x :: .code y :: k) s K) : TL P nt fx (.code (.seq x y) :: k) s K := .mk fun F a w hf hs => wpIt_seq (h.run F a w hf hs)
theorem TL.block {id : Nat} {x : Code} (h : TL P nt fx (.code x :: .endB id :: k) s K) : TL P nt fx (.code (.block id x) :: k) s K := .mk fun F a w hf hs => wpIt_block (h.run F a w hf hs)
theorem TL.endB {id : Nat} (h : TL P nt fx k s K) : TL P nt fx (.endB id :: k) s K := .mk fun F a w hf hs => by
  simp only [wpIt]
  exact h.run F a w hf hs
theorem TL.exit {id : Nat} {k' : List It} (hx : exitK id k = some k') (h : TL P nt fx k' s K) : TL P nt fx (.code (.exit id) :: k) s K := .mk fun F a w hf hs => by
  simp only [wpIt]
  exact wpIn_exit (wpIt_exit hx (h.run F a w hf hs))
theorem TL.exitOut {id : Nat} (hx : exitK id k = none) (h : K (.exit id) s) : TL P nt fx (.code (.exit id) :: k) s K := .mk fun F a w hf hs => by
  simp only [wpIt]
  exact wpIn_exit (wpIt_exitOut hx ⟨s, h, hs⟩)
theorem TL.ret (h : K .ret s) : TL P nt fx (.code .ret :: k) s K := .mk fun F a w hf hs => by
  simp only [wpIt]
  exact wpIn_ret (wpIt_ret ⟨s, h, hs⟩)
theorem TL.skip (h : TL P nt fx k s K) : TL P nt fx (.code .skip :: k) s K := .mk fun F a w hf hs => by
  simp only [wpIt]
  exact wpIn_skip (h.run F a w hf hs)
theorem TL.label {l : Nat} (h : TL P nt fx k s K) : TL P nt fx (.code (.label l) :: k) s K := .mk fun F a w hf hs => by
  simp only [wpIt]
  exact wpIn_label (h.run F a w hf hs)
theorem TL.nil (h : K .normal s) : TL P nt fx [] s K := .mk fun _F _a _w _hf hs => ⟨s, h, hs⟩
theorem TL.condB {c : Operand} {x y : Code} {b : Bool} (hc : evS s.sl c = some (.v (.bool b))) (ht : b = true → TL P nt fx (.code x :: k) s K) (hf : b = false → TL P nt fx (.code y :: k) s K) : TL P nt fx (.code (.cond c x y) :: k) s K := .mk fun F a w hfx hs => by
  have he : a.eval c = .bool b := by
    obtain ⟨β, hb⟩ := hs
    have := eval_of (β := β) (a := a) (evC_of hc) (fun p hp => hb.2.2.1 _ _ (insOf_pre hc p hp))
    simpa [SV.den] using this
  cases b with
  | true =>
    have := (ht rfl).run F a w hfx hs
    simp only [wpIt] at this ⊢
    exact wpIn_cond_true he this
  | false =>
    have := (hf rfl).run F a w hfx hs
    simp only [wpIt] at this ⊢
    exact wpIn_cond_false he this
theorem TL.cond {c : Operand} {x y : Code} {p : Prop} [hd : Decidable p] (hc : evS s.sl c = some (.v (.bool (decide p)))) (ht : p → TL P nt fx (.code x :: k) s K) (hf : ¬ p → TL P nt fx (.code y :: k) s K) : TL P nt fx (.code (.cond c x y) :: k) s K :=
  TL.condB hc (fun h => ht (of_decide_eq_true h)) (fun h => hf (of_decide_eq_false h))
theorem TL.condT {c : Operand} {x y : Code} {b : Bool} (hc : evS s.sl c = some (.v (.bool b))) (hb : b = true) (ht : TL P nt fx (.code x :: k) s K) : TL P nt fx (.code (.cond c x y) :: k) s K :=
  TL.condB hc (fun _ => ht) (fun h => by rw [hb] at h; cases h)
theorem TL.condF {c : Operand} {x y : Code} {b : Bool} (hc : evS s.sl c = some (.v (.bool b))) (hb : b = false) (ht : TL P nt fx (.code y :: k) s K) : TL P nt fx (.code (.cond c x y) :: k) s K :=
  TL.condB hc (fun h => by rw [hb] at h; cases h) (fun _ => ht)
theorem TL.plain {l : List Oper} {ds : List SD} {id : Nat} (hex : Ex P nt l.toArray l s ds s') (h : TL P nt fx k s' K) : TL P nt fx (.code (.region id l.toArray false) :: k) s K := .mk fun F a w hf hs => by
  simp only [wpIt]
  exact wp_plain hex hs (fun a w hs' => h.run F a w hf hs')
theorem TL.draw {l : List Oper} {ds : List SD} {id : Nat} (hm : P.follows .mixedOrders = true) (hex : Ex P nt l.toArray l s ds s') (hchk : chkGo 0 l (ds.map SD.sh) (ancsGo [] l) = true) (h : TL P nt fx k s' K) : TL P nt fx (.code (.region id l.toArray true) :: k) s K := .mk fun F a w hf hs => by
  simp only [wpIt]
  exact wp_draw hm hex hchk hs (fun a w hs' => h.run F a w hf hs')

/-- Behind a piece of code: R where it falls out at its end. -/
def loopK (P : Program) (nt : Nat) (fx : List Nat) (k : List It) (K : Exit → St → Prop) (R : St → Prop) : Exit → St → Prop
  | .normal, s => R s
  | .exit id, s => (∃ k', exitK id k = some k' ∧ TL P nt fx k' s K) ∨ (exitK id k = none ∧ K (.exit id) s)
  | e, s => K e s
theorem loopK.normal {R : St → Prop} (h : R s) : loopK P nt fx k K R .normal s := h
theorem loopK.exit {R : St → Prop} {id : Nat} {k' : List It} (hx : exitK id k = some k') (h : TL P nt fx k' s K) : loopK P nt fx k K R (.exit id) s := .inl ⟨k', hx, h⟩
theorem loopK.exitOut {R : St → Prop} {id : Nat} (hx : exitK id k = none) (h : K (.exit id) s) : loopK P nt fx k K R (.exit id) s := .inr ⟨hx, h⟩
theorem loopK.ret {R : St → Prop} (h : K .ret s) : loopK P nt fx k K R .ret s := h
theorem loopK.run {R : St → Prop} {Q : Act → World → Prop} {F : Fm} (hf : F.fx = fx) (hR : ∀ s a w, R s → Sat F nt s a w → Q a w) {e : Exit} {a : Act} {w : World} (h : ∃ s', loopK P nt fx k K R e s' ∧ Sat F nt s' a w) :
    Exit.then Q (wpIt F.rd P k (fun e a' w' => ∃ s', K e s' ∧ Sat F nt s' a' w')) e a w := by
  obtain ⟨s', h1, h2⟩ := h
  cases e with
  | normal => exact hR s' a w h1 h2
  | exit id =>
    rcases h1 with ⟨k', hx, h3⟩ | ⟨hx, h3⟩
    · exact wpIt_exit hx (h3.run F a w hf h2)
    · exact wpIt_exitOut hx ⟨s', h3, h2⟩
  | ret => exact wpIt_ret ⟨s', h1, h2⟩
  | goto l =>
    have : ∀ k : List It, wpIt F.rd P k (fun e a' w' => ∃ s', K e s' ∧ Sat F nt s' a' w') (.goto l) a w := by
      intro k
      induction k with
      | nil => exact ⟨s', h1, h2⟩
      | cons x k ih => cases x <;> simp only [wpIt] <;> exact ih
    exact this k
  | panic ch =>
    have : ∀ k : List It, wpIt F.rd P k (fun e a' w' => ∃ s', K e s' ∧ Sat F nt s' a' w') (.panic ch) a w := by
      intro k
      induction k with
      | nil => exact ⟨s', h1, h2⟩
      | cons x k ih => cases x <;> simp only [wpIt] <;> exact ih
    exact this k
  | outgrown =>
    have : ∀ k : List It, wpIt F.rd P k (fun e a' w' => ∃ s', K e s' ∧ Sat F nt s' a' w') .outgrown a w := by
      intro k
      induction k with
      | nil => exact ⟨s', h1, h2⟩
      | cons x k ih => cases x <;> simp only [wpIt] <;> exact ih
    exact this k

theorem TL.loop {X : Type _} (Inv : X → St) (Pre : X → Prop) (μ : X → Nat) {c : Code} (x0 : X) (h0 : Pre x0) (hle : Le fx ρ s (Inv x0))
    (round : ∀ x, Pre x → TL P nt fx [.code c] (Inv x) (loopK P nt fx k K fun s' => ∃ x' ρ, Pre x' ∧ μ x' < μ x ∧ Le fx ρ s' (Inv x'))) : TL P nt fx (.code (.loop c) :: k) s K := .mk fun F a w hf hs => by
  simp only [wpIt]
  refine wpIn_loop_ghost (fun n a w => ∃ x, Pre x ∧ μ x = n ∧ Sat F nt (Inv x) a w) (μ x0) ⟨x0, h0, rfl, hs.le hle hf⟩ ?_
  rintro n a w ⟨x, hx, rfl, hsx⟩
  have := (round x hx).run F a w hf hsx
  simp only [wpIt] at this
  refine Code.wpIn_mono (fun e a' w' h => loopK.run hf (fun s a w hR hsat => ?_) h) this
  obtain ⟨x', ρ, h1, h2, h3⟩ := hR
  exact ⟨μ x', h2, x', h1, rfl, hsat.le h3 hf⟩

/-- A loop whose first round leaves it. -/
theorem TL.loop1 {c : Code} (round : TL P nt fx [.code c] s (loopK P nt fx k K fun _ => False)) : TL P nt fx (.code (.loop c) :: k) s K := .mk fun F a w hf hs => by
  simp only [wpIt]
  refine wpIn_loop_ghost (fun _ a w => Sat F nt s a w) 0 hs ?_
  intro n a w hsx
  have := round.run F a w hf hsx
  simp only [wpIt] at this
  exact Code.wpIn_mono (fun e a' w' h => loopK.run hf (fun s a w hR hsat => hR.elim) h) this
theorem TL.cut {X : Type _} (Mid : X → St) (Pre : X → Prop) {c : Code} (h1 : TL P nt fx [.code c] s (loopK P nt fx k K fun s' => ∃ x ρ, Pre x ∧ Le fx ρ s' (Mid x))) (h2 : ∀ x, Pre x → TL P nt fx k (Mid x) K) : TL P nt fx (.code c :: k) s K := .mk fun F a w hf hs => by
  have := h1.run F a w hf hs
  simp only [wpIt] at this ⊢
  refine Code.wpIn_mono (fun e a' w' h => ?_) this
  have h3 := loopK.run (Q := wpIt F.rd P k (fun e a' w' => ∃ s', K e s' ∧ Sat F nt s' a' w') .normal) hf (fun s a w hR hsat => by
    obtain ⟨x, ρ, hp, hl⟩ := hR
    exact (h2 x hp).run F a w hf (hsat.le hl hf)) h
  cases e <;> exact h3

/-- A slice that is nil, as a row of one's own. -/
theorem TL.viewNil {sl : List (Nat × SV)} {hp : List (Nat × Chunk)} (t id : Nat) (e : TypeId) {α : Type} (E : Enc α) (ht : getL sl t = some (.v (.slice none 0 0))) (_hn : Nat.blt t nt = true) (hi : getL hp id = none) (h : TL P nt fx k ⟨(t, .a id 0) :: sl, (id, .own e E []) :: hp⟩ K) : TL P nt fx k ⟨sl, hp⟩ K := .mk fun F a w hf hs => by
  refine h.run F a w hf ?_
  obtain ⟨β, hs⟩ := hs
  have h1 := hs.new id (.own e E []) noBI hi (Fr.refl _ w) (by
    refine ⟨?_, by simp [upd_same, noBI], by simp [upd_same, noBI], by simp [upd_same, noBI]⟩
    simp only [upd_same, noBI, BI.ad, cond_true, List.length_nil]
    exact World.ownsRow_nil _ _ _ _) (fun g hg => by simp [Bl, Wr, upd_same, noBI] at hg) (by simp [Chunk.ids])
  obtain ⟨k1, k2, k3, k4, k5, k6⟩ := h1
  refine ⟨_, k1, k2, ?_, k4, ⟨?_, k5.2⟩, k6⟩
  · intro u y hu
    simp only [getL_cons] at hu
    split at hu
    · rename_i e
      subst e
      injection hu with hu
      subst hu
      have := hs.2.2.1 _ _ ht
      rw [this]
      simp [SV.den, upd_same, noBI, BI.dn]
    · exact k3 u y hu
  · intro u y hu i hi'
    simp only [getL_cons] at hu
    split at hu
    · injection hu with hu
      subst hu
      have : i = id := by simpa [SV.ids] using hi'
      subst this
      simp [getL_cons]
    · exact k5.1 u y hu i hi'
/-- The same where the slice lies in a cell. -/
theorem TL.viewNilC {sl : List (Nat × SV)} {hp : List (Nat × Chunk)} (i off id : Nat) (e : TypeId) {α : Type} (E : Enc α) {tt : TypeId} {cs : List SV} (hc : getL hp i = some (.cells tt cs)) (ho : cs[off]? = some (.v (.slice none 0 0))) (hi : getL hp id = none) (h : TL P nt fx k ⟨sl, (i, .cells tt (cs.set off (.a id 0))) :: (id, .own e E []) :: hp⟩ K) : TL P nt fx k ⟨sl, hp⟩ K := .mk fun F a w hf hs => by
  refine h.run F a w hf ?_
  obtain ⟨β, hs⟩ := hs
  have h1 := hs.new id (.own e E []) noBI hi (Fr.refl _ w) (by
    refine ⟨?_, by simp [upd_same, noBI], by simp [upd_same, noBI], by simp [upd_same, noBI]⟩
    simp only [upd_same, noBI, BI.ad, cond_true, List.length_nil]
    exact World.ownsRow_nil _ _ _ _) (fun g hg => by simp [Bl, Wr, upd_same, noBI] at hg) (by simp [Chunk.ids])
  have hne : id ≠ i := by
    rintro rfl
    rw [hc] at hi
    cases hi
  have hci : getL ((id, Chunk.own e E []) :: hp) i = some (.cells tt cs) := by rw [getL_cons, if_neg hne]; exact hc
  have hden : denL (upd β id noBI) (cs.set off (.a id 0)) = denL (upd β id noBI) cs := by
    rw [denL_eq, denL_eq, List.map_set]
    have h2 : (SV.a id 0).den (upd β id noBI) = .slice none 0 0 := by simp [SV.den, upd_same, noBI, BI.dn]
    rw [h2]
    apply List.ext_getElem?
    intro q
    rw [List.getElem?_set]
    split
    · rename_i e1
      subst e1
      obtain ⟨hlt, he⟩ := List.getElem?_eq_some_iff.1 ho
      simp [hlt, he, SV.den]
    · rfl
  have hok := h1.2.2.2.1.1 i _ hci
  refine ⟨_, h1.rewrite i (.cells tt cs) (.cells tt (cs.set off (.a id 0))) hci (Fr.refl _ w) ?_ (fun g h => h) (fun g h => h) ?_⟩
  · obtain ⟨k1, k2, k3, k4⟩ := hok
    exact ⟨k1, k2, by rw [hden]; exact k3, k4⟩
  · intro j hj
    obtain ⟨x, hx, hjx⟩ := mem_idsL.1 hj
    rcases List.mem_or_eq_of_mem_set hx with h3 | h3
    · exact h1.2.2.2.2.1.2 i _ hci j (mem_idsL.2 ⟨x, h3, hjx⟩)
    · subst h3
      have : j = id := by simpa [SV.ids] using hjx
      subst this
      simp [getL_cons]
end
end Go.Proofs.Ytiboffhdabeiiaa

/-
  The symbolic state: what a function does (Spec), shown from its code and used at a call. Plain lemmas over any program.
-/
namespace Go.Proofs.Ytiboffhdabeiiaa
open Go Go.RowKit

def wrS (β : Nat → BI) (pre : List (Nat × Chunk)) (g : Nat) : Prop := ∃ i c, getL pre i = some c ∧ Wr β i c g
def spF (β : Nat → BI) (pre : List (Nat × Chunk)) (w : World) : Fm := ⟨w, wrS β pre, [], β, none, fun _ => rfl⟩
/-- Called with args, where pre lies behind their names, the function returns res, and post lies behind the names that are new, or were written. -/
def Spec (P : Program) (f : FuncId) (args : List SV) (pre : List (Nat × Chunk)) (res : SV) (post : List (Nat × Chunk)) : Prop :=
  (∀ (as : Array Value) (w : World), (callFunc f as).run P w = .ok (.enter f as) w) ∧
  ∀ (β : Nat → BI) (w : World), HOk (spF β pre w) β pre w → Calls P f (denL β args).toArray w fun e w' =>
    ∃ β', (∀ i, (getL pre i).isSome = true → β' i = β i) ∧ e = .returned (res.den β') ∧ HOk (spF β pre w) β' post w' ∧ Fr (wrS β pre) w w'

section
variable {P : Program} {nt : Nat} {fx : List Nat} {F F' : Fm} {β β' : Nat → BI} {s s' : St} {a : Act} {w w' : World} {id : Nat} {c c' : Chunk} {ρ : Nat → Nat}

theorem ChOk.frame (h : ChOk F β id w c) (hm : ∀ g, Wr β id c g → F'.mine g) : ChOk F' β id w c := by
  cases c with
  | cells t cs => exact ⟨h.1, h.2.1, h.2.2.1, hm _ rfl⟩
  | ro E l => exact h
  | mt E l => exact ⟨h.1, fun hl => ⟨hm _ ⟨hl, rfl⟩, (h.2 hl).2⟩⟩
  | own e E l => exact ⟨h.1, h.2.1, fun hn => hm _ ⟨hn, rfl⟩, h.2.2.2⟩
  | obj X => exact ⟨h.1, fun g hg => hm g hg⟩
  | lp I sl st pe =>
    obtain ⟨fn, tmps, D, h1, _⟩ := h
    exact ⟨fn, tmps, D, h1, hm _ rfl⟩
  | dead => trivial

/-- A result, as a return hands it on. -/
inductive Res1 (P : Program) : ResultVar → St → SV → Prop
  | tmp {s : St} {t : Nat} {X : SV} (h : getL s.sl t = some X) : Res1 P (.tmp t) s X
  | cell {s : St} {t id n : Nat} {T tt : TypeId} {X : SV} {cs : List SV} [hT : TyShape P T false n] (h : getL s.sl t = some (.p id 0)) (hc : getL s.hp id = some (.cells tt cs)) (hX : cs[0]? = some X) : Res1 P (.cell t T) s X
  | agg {s : St} {t id n : Nat} {T tt : TypeId} {cs : List SV} [hT : TyShape P T true n] (h : getL s.sl t = some (.p id 0)) (hc : getL s.hp id = some (.cells tt cs)) (hn : Nat.beq cs.length n = true) : Res1 P (.cell t T) s (.agg cs)
def resVar (tmps : Array Value) (r : ResultVar) : Sem Value := match r with | .tmp t => pure (tmps.getD t undef) | .cell b t => do loadVar t (← asAddr (tmps.getD b undef))
theorem results_eq (fn : Func) (tmps : Array Value) : results fn tmps = (do
    let vs ← fn.results.mapM (resVar tmps)
    pure (if h : vs.size = 1 then vs[0] else .tuple vs)) := rfl
theorem Res1.run {r : ResultVar} {X : SV} (h : Res1 P r s X) (hs : SatB F nt β s a w) : (resVar a.tmps r).run P w = .ok (X.den β) w := by
  have g : ∀ {t : Nat} {X : SV}, getL s.sl t = some X → a.tmps.getD t undef = X.den β := fun h => by rw [Array.getD_eq_getD_getElem?, hs.2.2.1 _ _ h]; rfl
  cases h with
  | tmp h => simp only [resVar, g h]; rfl
  | cell h hc hX =>
    rename_i t id n T tt cs hT
    simp [resVar, g h, SV.den, asAddr, loadVar, run_isAgg' hT.h, cells_at (hs.2.2.2.1.1 _ _ hc) hX]
  | agg h hc hn =>
    rename_i t id n T tt cs hT
    have hn' := Nat.eq_of_beq_eq_true hn
    have h7 := run_loadCells_list (P := P) (w := w) ⟨(β id).B, 0, none⟩ (denL β cs) (fun i v hv => by
      rw [denL_eq, List.getElem?_map] at hv
      cases hx : cs[i]? with
      | none => rw [hx] at hv; cases hv
      | some X =>
        rw [hx] at hv
        injection hv with hv
        rw [add_lit, ← hv, Nat.zero_add]
        exact cells_at (hs.2.2.2.1.1 _ _ hc) hx)
    rw [denL_len, hn'] at h7
    simp only [resVar, g h, SV.den, asAddr, loadVar, Sem.run_bind, Sem.run_pure, Result.andThen_ok, run_isAgg' hT.h, if_true, run_sizeOf' hT.hn, h7]
inductive ResS (P : Program) : Array ResultVar → St → SV → Prop
  | none {s : St} : ResS P #[] s (.tup [])
  | one {s : St} {r : ResultVar} {X : SV} (h : Res1 P r s X) : ResS P #[r] s X
  | two {s : St} {r r2 : ResultVar} {X Y : SV} (h : Res1 P r s X) (h2 : Res1 P r2 s Y) : ResS P #[r, r2] s (.tup [X, Y])
  | three {s : St} {r r2 r3 : ResultVar} {X Y Z : SV} (h : Res1 P r s X) (h2 : Res1 P r2 s Y) (h3 : Res1 P r3 s Z) : ResS P #[r, r2, r3] s (.tup [X, Y, Z])
theorem ResS.run {fn : Func} {X : SV} (h : ResS P fn.results s X) (hs : SatB F nt β s a w) : (results fn a.tmps).run P w = .ok (X.den β) w := by
  generalize hr : fn.results = r at h
  cases h with
  | none => simp [results_eq, hr, SV.den, denL]
  | one h =>
    have := h.run hs
    simp only [results_eq, hr]
    simp [this]
  | two h h2 =>
    have k1 := h.run hs
    have k2 := h2.run hs
    simp only [results_eq, hr]
    simp [k1, k2, SV.den, denL]
  | three h h2 h3 =>
    have k1 := h.run hs
    have k2 := h2.run hs
    have k3 := h3.run hs
    simp only [results_eq, hr]
    simp [k1, k2, k3, SV.den, denL]

def retB (fx : List Nat) (pre post : List (Nat × Chunk)) (res : SV) : Bool :=
  (res.ids ++ post.flatMap fun p => p.1 :: p.2.ids).all fun i => !inB' pre i || fx.contains i
/-- What is to hold where a function returns. -/
structure RetOk (P : Program) (fx : List Nat) (rs : Array ResultVar) (pre post : List (Nat × Chunk)) (res : SV) (ρ : Nat → Nat) (s : St) : Prop where
  rs_ : ResS P rs s (res.ren ρ)
  hp_ : LeH ρ s.hp post
  ck : (nodupB (post.map fun p => ρ p.1) && fxB fx ρ s.hp && retB fx pre post res) = true
def retK (P : Program) (fx : List Nat) (rs : Array ResultVar) (pre post : List (Nat × Chunk)) (res : SV) : Exit → St → Prop
  | .normal, s => ∃ ρ, RetOk P fx rs pre post res ρ s
  | .ret, s => ∃ ρ, RetOk P fx rs pre post res ρ s
  | _, _ => False
def numL (k : Nat) : List SV → List (Nat × SV)
  | [] => []
  | x :: l => (k, x) :: numL (k + 1) l
theorem numL_at : ∀ (l : List SV) (k t : Nat) (x : SV), getL (numL k l) t = some x → k ≤ t ∧ l[t - k]? = some x
  | y :: l, k, t, x, h => by
    simp only [numL, getL_cons] at h
    split at h
    · rename_i e
      subst e
      injection h with h
      subst h
      simp
    · obtain ⟨h1, h2⟩ := numL_at l (k + 1) t x h
      refine ⟨by omega, ?_⟩
      rw [show t - k = (t - (k + 1)) + 1 by omega]
      simpa using h2
def argB (args : List SV) (pre : List (Nat × Chunk)) (fx : List Nat) : Bool := args.all (fun x => x.ids.all (inB' pre)) && pre.all (fun p => p.2.ids.all (inB' pre)) && fx.all (inB' pre)

/-- A block that is kept for the end is taken. -/
theorem SatB.take {D : Nat} {ds : List Deferred} (h : SatB F nt β s a w) (hd : a.defers = ⟨.collected D, #[]⟩ :: ds) (hD : F.w0.heap.size ≤ D) (hh : w.heap[D]? = some (.deferred (some []))) : SatB F nt β s { a with defers := ds } (w.putObj D (.deferred none)) := by
  obtain ⟨h1, h2, h3, h4, h5, h6⟩ := h
  refine ⟨⟨⟨fun d hd' => ?_, ?_⟩, h1.2⟩, h2, h3, ⟨fun i c hi => ?_, h4.2⟩, h5, ?_⟩
  · obtain ⟨D', k1, k2, k3⟩ := h1.1.1 d (by rw [hd]; exact List.mem_cons_of_mem _ hd')
    refine ⟨D', k1, k2, ?_⟩
    rw [World.putObj_heap_other, k3]
    rintro rfl
    have hn := h1.1.2
    rw [hd] at hn
    exact (List.nodup_cons.1 hn).1 (by rw [← k1]; exact hd')
  · have hn := h1.1.2
    rw [hd] at hn
    exact (List.nodup_cons.1 hn).2
  · refine (h4.1 i c hi).keep (fun g hg => World.putObj_heap_other ?_) rfl (fun _ _ => rfl)
    rintro rfl
    exact (h4.1 i c hi).nd hg _ hh
  · refine h6.trans' (T := fun g => g = D) ⟨rfl, rfl, rfl, by simp, fun k _ hk => World.putObj_heap_other hk⟩ (fun g hg e => ?_)
    subst e
    omega
theorem leaves_sat {fn : Func} {R : Ending → World → Prop} {F : Fm} {β : Nat → BI} {s : St} {tmps : Array Value} : ∀ (ds : List Deferred) (w : World), SatB F nt β s ⟨tmps, ds⟩ w →
    (∀ w', SatB F nt β s ⟨tmps, []⟩ w' → ∃ v, (results fn tmps).run P w' = .ok v w' ∧ R (.returned v) w') → LeavesInM Fence.wide 0 P fn tmps R ds .returning w
  | [], w, hs, h => h w hs
  | d :: ds, w, hs, h => by
    obtain ⟨D, rfl, h2, h3⟩ := hs.1.1.1 d (List.mem_cons_self ..)
    exact ⟨by simp, .inl ⟨D, _, rfl, run_takeDeferred h3, leaves_sat ds _ (hs.take rfl h2 h3) h⟩⟩
/-- What a state at an end says by the names of the start. -/
theorem ret_core {w0 : World} {pre post : List (Nat × Chunk)} {res : SV} {β1 : Nat → BI} (hw0 : F.w0 = w0) (hS : F.S = wrS β pre) (hfx : F.fx = fx) (hβ0 : F.β0 = β) (hs1 : SatB F nt β1 s' a w') (r2 : LeH ρ s'.hp post) (c1 : nodupB (post.map fun p => ρ p.1) = true) (c2 : fxB fx ρ s'.hp = true) (c3 : retB fx pre post res = true) :
    ∃ β', (∀ i, (getL pre i).isSome = true → β' i = β i) ∧ (res.ren ρ).den β1 = res.den β' ∧ HOk (spF β pre w0) β' post w' ∧ Fr (wrS β pre) w0 w' := by
  have agree : ∀ i, i ∈ res.ids ++ post.flatMap (fun p => p.1 :: p.2.ids) → (fun i => if (getL pre i).isSome = true then β i else β1 (ρ i)) i = β1 (ρ i) := by
    intro i hi
    dsimp only
    by_cases hp : (getL pre i).isSome = true
    · rw [if_pos hp]
      have hfx' := List.all_eq_true.1 c3 i hi
      have hpi : inB' pre i = true := hp
      rw [hpi] at hfx'
      simp at hfx'
      have h4 := List.all_eq_true.1 c2 i hfx'
      simp only [Bool.and_eq_true] at h4
      rw [Nat.eq_of_beq_eq_true h4.2, (hs1.1.2 i (by rw [hfx]; exact hfx')).2, hβ0]
    · rw [if_neg hp]
  refine ⟨fun i => if (getL pre i).isSome = true then β i else β1 (ρ i), fun i hi => if_pos hi, ?_, ⟨?_, ?_⟩, by rw [← hS, ← hw0]; exact hs1.2.2.2.2.2⟩
  · rw [SV.den_ren]
    exact (SV.den_congr res (fun i hi => agree i (List.mem_append_left _ hi))).symm
  · intro i c hi
    obtain ⟨c', hc', hl⟩ := r2.at_ hi
    have hm := getL_mem hi
    have h5 := ((hl.ok (hs1.2.2.2.1.1 _ _ hc')).ren).keep (w' := w') (β' := fun i => if (getL pre i).isSome = true then β i else β1 (ρ i)) (fun _ _ => rfl) (agree i (List.mem_append_right _ (List.mem_flatMap.2 ⟨_, hm, List.mem_cons_self ..⟩))).symm
      (fun j hj => (agree j (List.mem_append_right _ (List.mem_flatMap.2 ⟨_, hm, List.mem_cons_of_mem _ hj⟩))).symm)
    refine h5.frame (fun g hg => ?_)
    rcases h5.mine hg with h | h
    · exact .inl (by rw [hw0] at h; exact h)
    · exact .inr (by rw [hS] at h; exact h)
  · intro i j ci cj hne hi hj g hw hb
    obtain ⟨ci', hci', hli⟩ := r2.at_ hi
    obtain ⟨cj', hcj', hlj⟩ := r2.at_ hj
    have hmi := getL_mem hi
    have hmj := getL_mem hj
    have hn := nodupB_spec c1 _ hmi _ hmj hne
    have ai := agree i (List.mem_append_right _ (List.mem_flatMap.2 ⟨_, hmi, List.mem_cons_self ..⟩))
    have aj := agree j (List.mem_append_right _ (List.mem_flatMap.2 ⟨_, hmj, List.mem_cons_self ..⟩))
    have hw' : Wr (fun i => β1 (ρ i)) i ci g := (Wr.congr (β := fun i => if (getL pre i).isSome = true then β i else β1 (ρ i)) (β' := fun i => β1 (ρ i)) ai g).1 hw
    have hb' : Bl (fun i => β1 (ρ i)) j cj g := (Bl.congr (β := fun i => if (getL pre i).isSome = true then β i else β1 (ρ i)) (β' := fun i => β1 (ρ i)) aj g).1 hb
    exact hs1.2.2.2.1.2 _ _ _ _ hn hci' hcj' g (hli.wr (hs1.2.2.2.1.1 _ _ hci') hw'.ren) (hlj.bl (hs1.2.2.2.1.1 _ _ hcj') hb'.ren)

theorem Spec.mk {f : FuncId} {fn : Func} {c : Code} {args : List SV} {pre post : List (Nat × Chunk)} {res : SV} {rs : Array ResultVar} (fx : List Nat) (hc : ∀ (as : Array Value) (w : World), (callFunc f as).run P w = .ok (.enter f as) w) (hf : P.funcs[f]? = some fn) (hn : fn.ntmps = nt) (hr : fn.results = rs) (hb : fn.body = some c)
    (hal : Nat.ble args.length nt = true) (hck : argB args pre fx = true) (h : TL P nt fx [.code c] ⟨numL 0 args, pre⟩ (retK P fx rs pre post res)) : Spec P f args pre res post := by
  refine ⟨hc, fun β w hok => callsIn_wide.1 (callsIn_of_wp_marks (F := Fence.wide) (n := 0) hf hb trivial ?_ rfl)⟩
  simp only [argB, Bool.and_eq_true] at hck
  obtain ⟨⟨k1, k2⟩, k3⟩ := hck
  have hal' := Nat.le_of_ble_eq_true hal
  have hin : ∀ i, inB' pre i = true → (getL pre i).isSome = true := fun i hi => hi
  have hsat : SatB ⟨w, wrS β pre, fx, β, none, fun _ => rfl⟩ nt β ⟨numL 0 args, pre⟩ { tmps := (denL β args).toArray ++ Array.replicate (fn.ntmps - (denL β args).toArray.size) undef, defers := [] } w := by
    refine ⟨⟨⟨by simp, by simp⟩, fun i hi => ⟨List.all_eq_true.1 k3 i hi, rfl⟩⟩, ?_, ?_, ⟨fun i c hi => (hok.1 i c hi).frame (fun g hg => .inr ⟨i, c, hi, hg⟩), hok.2⟩, ⟨?_, ?_⟩, Fr.refl _ _⟩
    · simp [denL_len, hn]
      omega
    · intro t x ht
      obtain ⟨_, h2⟩ := numL_at args 0 t x ht
      have h3 : (denL β args)[t]? = some (x.den β) := by rw [denL_eq, List.getElem?_map]; simp at h2; rw [h2]; rfl
      have hlt := (List.getElem?_eq_some_iff.1 h3).1
      rw [Array.getElem?_append_left (by simpa using hlt)]
      simpa using h3
    · intro t x ht i hi
      obtain ⟨_, h2⟩ := numL_at args 0 t x ht
      exact List.all_eq_true.1 (List.all_eq_true.1 k1 x (List.mem_of_getElem? h2)) i hi
    · intro i c hi j hj
      exact List.all_eq_true.1 (List.all_eq_true.1 k2 _ (getL_mem hi)) j hj
  have h1 := h.run ⟨w, wrS β pre, fx, β, none, fun _ => rfl⟩ _ w rfl ⟨β, hsat⟩
  simp only [wpIt] at h1
  refine Code.wpIn_mono (fun e a' w' h2 => ?_) (show c.wpIn Fence.wide 0 P _ _ w from h1)
  obtain ⟨s', h3, β1, hs1⟩ := h2
  have fin : ∀ ρ, RetOk P fx rs pre post res ρ s' → LeavesInM Fence.wide 0 P fn a'.tmps (fun e w' => ∃ β', (∀ i, (getL pre i).isSome = true → β' i = β i) ∧ e = .returned (res.den β') ∧ HOk (spF β pre w) β' post w' ∧ Fr (wrS β pre) w w') a'.defers .returning w' := by
    rintro ρ ⟨r1, r2, r3⟩
    simp only [Bool.and_eq_true] at r3
    obtain ⟨⟨c1, c2⟩, c3⟩ := r3
    refine leaves_sat a'.defers w' hs1 (fun w2 hs2 => ?_)
    obtain ⟨β', k1, k2, k3, k4⟩ := ret_core rfl rfl rfl rfl hs2 r2 c1 c2 c3
    exact ⟨_, ResS.run (a := ⟨a'.tmps, []⟩) (by rw [hr]; exact r1) hs2, β', k1, by rw [k2], k3, k4⟩
  cases e with
  | normal => obtain ⟨ρ, h4⟩ := h3; exact fin ρ h4
  | ret => obtain ⟨ρ, h4⟩ := h3; exact fin ρ h4
  | exit id => exact h3.elim
  | goto l => exact h3.elim
  | panic ch => exact h3.elim
  | outgrown => exact h3.elim

/-! ### A call -/
inductive Match (σ : Nat → Nat) (hp : List (Nat × Chunk)) : List (Nat × Chunk) → List (Nat × Chunk) → Prop
  | nil : Match σ hp [] []
  | cons {i : Nat} {c c' : Chunk} {pre hin : List (Nat × Chunk)} (h : getL hp (σ i) = some c') (hl : ChLe c' (c.ren σ)) (k : Match σ hp pre hin) : Match σ hp ((i, c) :: pre) ((σ i, c') :: hin)
theorem Match.at_ {σ : Nat → Nat} {hp pre hin : List (Nat × Chunk)} (h : Match σ hp pre hin) : ∀ {i c}, getL pre i = some c → ∃ c', (σ i, c') ∈ hin ∧ ChLe c' (c.ren σ) := by
  induction h with
  | nil => intro i c h; simp [getL] at h
  | cons h hl k ih =>
    intro i c hg
    rw [getL_cons] at hg
    split at hg
    · rename_i e
      subst e
      injection hg with hg
      subst hg
      exact ⟨_, List.mem_cons_self .., hl⟩
    · obtain ⟨c', h1, h2⟩ := ih hg
      exact ⟨c', List.mem_cons_of_mem _ h1, h2⟩
theorem Match.pre_ {σ : Nat → Nat} {hp pre hin : List (Nat × Chunk)} (h : Match σ hp pre hin) : ∀ p ∈ hin, getL hp p.1 = some p.2 := by
  induction h with
  | nil => simp
  | cons h hl k ih =>
    intro p hp'
    rcases List.mem_cons.1 hp' with rfl | hp'
    · exact h
    · exact ih p hp'

def roC : Chunk → Bool
  | .ro _ _ => true
  | .dead => true
  | _ => false
def aliasB (σ : Nat → Nat) : List (Nat × Chunk) → Bool
  | [] => true
  | p :: l => l.all (fun q => (roC p.2 && roC q.2) || Nat.beq p.1 q.1 || !Nat.beq (σ p.1) (σ q.1)) && aliasB σ l
theorem aliasB_spec {σ : Nat → Nat} : ∀ {l : List (Nat × Chunk)}, aliasB σ l = true → ∀ p ∈ l, ∀ q ∈ l, p.1 ≠ q.1 → roC p.2 = false → σ p.1 ≠ σ q.1
  | [], _, p, hp, _, _, _, _ => by simp at hp
  | x :: l, h, p, hp, q, hq, hne, hro => by
    simp only [aliasB, Bool.and_eq_true] at h
    obtain ⟨h1, h2⟩ := h
    rcases List.mem_cons.1 hp with hp1 | hp1
    · rcases List.mem_cons.1 hq with hq1 | hq1
      · exact absurd (by rw [hp1, hq1]) hne
      · have := List.all_eq_true.1 h1 q hq1
        rw [← hp1, hro] at this
        simp only [Bool.false_and, Bool.false_or, Bool.or_eq_true, Bool.not_eq_true'] at this
        rcases this with h | h
        · exact absurd (Nat.eq_of_beq_eq_true h) hne
        · intro e
          rw [e] at h
          simp at h
    · rcases List.mem_cons.1 hq with hq1 | hq1
      · have := List.all_eq_true.1 h1 p hp1
        rw [← hq1, hro] at this
        simp only [Bool.and_false, Bool.false_or, Bool.or_eq_true, Bool.not_eq_true'] at this
        rcases this with h | h
        · exact absurd (Nat.eq_of_beq_eq_true h).symm hne
        · intro e
          rw [e] at h
          simp at h
      · exact aliasB_spec h2 p hp1 q hq1 hne hro
def newIds (pre post : List (Nat × Chunk)) : List Nat := (post.map (·.1)).filter fun i => !inB' pre i
def callB (σ : Nat → Nat) (pre post : List (Nat × Chunk)) (res : SV) : Bool :=
  aliasB σ pre && nodupB (post.map fun p => σ p.1) && pre.all (fun p => roC p.2 || inB' post p.1) && post.all (fun p => !roC p.2 || (match p.2 with | .dead => true | _ => false)) && (res.ids ++ post.flatMap fun p => p.2.ids).all fun i => inB' pre i || inB' post i
def renH (σ : Nat → Nat) (l : List (Nat × Chunk)) : List (Nat × Chunk) := l.map fun p => (σ p.1, p.2.ren σ)
theorem renH_at {σ : Nat → Nat} : ∀ {l : List (Nat × Chunk)} {j : Nat} {c : Chunk}, getL (renH σ l) j = some c → ∃ i c0, (i, c0) ∈ l ∧ σ i = j ∧ c = c0.ren σ
  | (i, c0) :: l, j, c, h => by
    simp only [renH, List.map_cons, getL_cons] at h
    split at h
    · rename_i e
      injection h with h
      exact ⟨i, c0, List.mem_cons_self .., e, h.symm⟩
    · obtain ⟨i', c', h1, h2⟩ := renH_at (l := l) h
      exact ⟨i', c', List.mem_cons_of_mem _ h1, h2⟩
theorem renH_some {σ : Nat → Nat} : ∀ {l : List (Nat × Chunk)} {i : Nat}, inB' l i = true → (getL (renH σ l) (σ i)).isSome = true
  | (k, c0) :: l, i, h => by
    simp only [inB', getL_cons] at h
    simp only [renH, List.map_cons, getL_cons]
    by_cases e : k = i
    · subst e
      simp
    · rw [if_neg e] at h
      split
      · rfl
      · exact renH_some h
theorem getL_of_nodup {σ : Nat → Nat} {l : List (Nat × Chunk)} (h : nodupB (l.map fun p => σ p.1) = true) {i : Nat} {c : Chunk} (hm : (i, c) ∈ l) : getL l i = some c := by
  induction l with
  | nil => simp at hm
  | cons p l ih =>
    simp only [List.map_cons, nodupB, Bool.and_eq_true] at h
    rw [show p = (p.1, p.2) from rfl, getL_cons]
    rcases List.mem_cons.1 hm with e | hm
    · rw [← e]
      simp
    · rw [if_neg]
      · exact ih h.2 hm
      · intro e
        have h1 := h.1
        simp at h1
        exact h1 i c hm (by rw [e])

def evL (sl : List (Nat × SV)) : List Operand → Option (List SV)
  | [] => some []
  | x :: l => match evS sl x, evL sl l with
    | some X, some r => some (X :: r)
    | _, _ => none
def insL : List Operand → List SV → List (Nat × SV)
  | x :: l, X :: r => insOf x X ++ insL l r
  | _, _ => []
theorem insL_pre {s : St} : ∀ {l : List Operand} {r : List SV}, evL s.sl l = some r → ∀ p ∈ insL l r, getL s.sl p.1 = some p.2
  | [], r, h, p, hp => by simp [insL] at hp
  | x :: l, r, h, p, hp => by
    simp only [evL] at h
    cases hx : evS s.sl x with
    | none => simp [hx] at h
    | some X =>
      cases hr : evL s.sl l with
      | none => simp [hx, hr] at h
      | some r' =>
        simp [hx, hr] at h
        subst h
        simp only [insL, List.mem_append] at hp
        rcases hp with hp | hp
        · exact insOf_pre hx p hp
        · exact insL_pre hr p hp
theorem insL_eval {sl : List (Nat × SV)} : ∀ {l : List Operand} {r : List SV}, evL sl l = some r → (∀ p ∈ insL l r, a.tmps[p.1]? = some (p.2.den β)) → l.map a.eval = denL β r
  | [], r, h, _ => by
    simp [evL] at h
    subst h
    rfl
  | x :: l, r, h, hp => by
    simp only [evL] at h
    cases hx : evS sl x with
    | none => simp [hx] at h
    | some X =>
      cases hr : evL sl l with
      | none => simp [hx, hr] at h
      | some r' =>
        simp [hx, hr] at h
        subst h
        simp only [insL] at hp
        rw [List.map_cons, denL, insL_eval hr (fun p hp' => hp p (List.mem_append_right _ hp')), eval_of (evC_of hx) (fun p hp' => hp p (List.mem_append_left _ hp'))]

def putD (d : Option Nat) (X : SV) (sl : List (Nat × SV)) : List (Nat × SV) := match d with
  | some t => (t, X) :: sl
  | none => sl
def dstB (nt : Nat) (d : Option Nat) : Bool := match d with
  | some t => Nat.blt t nt
  | none => true

/-- A call of whatever make, from what it asks to what it leaves. -/
def SpecC (C : (Nat → BI) → World → (Ending → World → Prop) → Prop) (pre : List (Nat × Chunk)) (res : SV) (post : List (Nat × Chunk)) : Prop :=
  ∀ (β : Nat → BI) (w : World), HOk (spF β pre w) β pre w → C β w fun e w' =>
    ∃ β', (∀ i, (getL pre i).isSome = true → β' i = β i) ∧ e = .returned (res.den β') ∧ HOk (spF β pre w) β' post w' ∧ Fr (wrS β pre) w w'
theorem call_core {C : (Nat → BI) → World → (Ending → World → Prop) → Prop} (hmono : ∀ β w R R', C β w R → (∀ e w', R e w' → R' e w') → C β w R') {pre post : List (Nat × Chunk)} {res : SV} (hspec : SpecC C pre res post) (σ : Nat → Nat) (hs : SatB F nt β s a w)
    (look : ∀ {i c}, getL pre i = some c → ∃ c', getL s.hp (σ i) = some c' ∧ ChLe c' (c.ren σ)) (hck : callB σ pre post res = true) (fresh : ∀ i ∈ newIds pre post, getL s.hp (σ i) = none) :
    C (fun i => β (σ i)) w fun e w' => ∃ β2, (∀ j, (getL s.hp j).isSome = true → β j = β2 j) ∧ e = .returned ((res.ren σ).den β2) ∧ SatB F nt β2 ⟨s.sl, renH σ post ++ s.hp⟩ a w' ∧ ∀ i ∈ (res.ren σ).ids, (getL (renH σ post ++ s.hp) i).isSome = true := by
  simp only [callB, Bool.and_eq_true] at hck
  obtain ⟨⟨⟨⟨c1, c2⟩, c3⟩, c4⟩, c5⟩ := hck
  have hok : HOk (spF (fun i => β (σ i)) pre w) (fun i => β (σ i)) pre w := by
    refine ⟨fun i c hi => ?_, fun i j ci cj hne hi hj g hw hb => ?_⟩
    · obtain ⟨c', h1, h2⟩ := look hi
      exact ((h2.ok (hs.2.2.2.1.1 _ _ h1)).ren).frame (fun g hg => .inr ⟨i, c, hi, hg⟩)
    · obtain ⟨ci', h1, h2⟩ := look hi
      obtain ⟨cj', h3, h4⟩ := look hj
      have hro : roC ci = false := by cases ci <;> first | rfl | exact hw.elim
      have hn := aliasB_spec c1 _ (getL_mem hi) _ (getL_mem hj) hne hro
      exact hs.2.2.2.1.2 _ _ _ _ hn h1 h3 g (h2.wr (hs.2.2.2.1.1 _ _ h1) hw.ren) (h4.bl (hs.2.2.2.1.1 _ _ h3) hb.ren)
  refine hmono _ _ _ _ (hspec (fun i => β (σ i)) w hok) ?_
  rintro e w' ⟨β1, b1, rfl, hok1, hfr1⟩
  let β2 : Nat → BI := fun j => match (newIds pre post).find? (fun i => Nat.beq (σ i) j) with
    | some i => β1 i
    | none => β j
  have b2old : ∀ j, (getL s.hp j).isSome = true → β j = β2 j := by
    intro j hj
    show β j = match (newIds pre post).find? (fun i => Nat.beq (σ i) j) with | some i => β1 i | none => β j
    cases hfi : (newIds pre post).find? (fun i => Nat.beq (σ i) j) with
    | none => rfl
    | some i =>
      have h1 := List.find?_some hfi
      have h2 := fresh i (List.mem_of_find?_eq_some hfi)
      rw [Nat.eq_of_beq_eq_true h1] at h2
      rw [h2] at hj
      cases hj
  have postAt : ∀ i, inB' post i = true → inB' pre i = false → i ∈ newIds pre post := by
    intro i hi hn
    refine List.mem_filter.2 ⟨?_, by simp [hn]⟩
    obtain ⟨c, hc⟩ := Option.isSome_iff_exists.1 hi
    exact List.mem_map.2 ⟨_, getL_mem hc, rfl⟩
  have b2 : ∀ i, inB' pre i = true ∨ inB' post i = true → β2 (σ i) = β1 i := by
    intro i hi
    cases hp : inB' pre i
    · have hpo : inB' post i = true := hi.resolve_left (by rw [hp]; simp)
      have hnew := postAt i hpo hp
      show (match (newIds pre post).find? (fun k => Nat.beq (σ k) (σ i)) with | some k => β1 k | none => β (σ i)) = β1 i
      cases hfi : (newIds pre post).find? (fun k => Nat.beq (σ k) (σ i)) with
      | none =>
        have := List.find?_eq_none.1 hfi i hnew
        simp at this
      | some k =>
        have h1 := List.find?_some hfi
        have h1 := Nat.eq_of_beq_eq_true h1
        have h2 := List.mem_of_find?_eq_some hfi
        obtain ⟨h3, _⟩ := List.mem_filter.1 h2
        obtain ⟨pk, h4, h5⟩ := List.mem_map.1 h3
        obtain ⟨c, hc⟩ := Option.isSome_iff_exists.1 hpo
        by_cases hki : k = i
        · rw [hki]
        · exact absurd h1 (by rw [← h5]; exact nodupB_spec c2 _ h4 _ (getL_mem hc) (by rw [h5]; exact hki))
    · obtain ⟨c, hc⟩ := Option.isSome_iff_exists.1 hp
      obtain ⟨c', h1, _⟩ := look hc
      rw [← b2old (σ i) (by rw [h1]; rfl)]
      exact (b1 i hp).symm
  have wrSome : ∀ {i c g}, getL pre i = some c → Wr (fun i => β (σ i)) i c g → ∃ j c0, getL s.hp j = some c0 ∧ (getL (renH σ post) j).isSome = true ∧ Wr β j c0 g := by
    intro i c g hi hw
    obtain ⟨c', h1, h2⟩ := look hi
    refine ⟨σ i, c', h1, ?_, h2.wr (hs.2.2.2.1.1 _ _ h1) hw.ren⟩
    have h3 := List.all_eq_true.1 c3 _ (getL_mem hi)
    have hro : roC c = false := by cases c <;> first | rfl | exact hw.elim
    dsimp only at h3
    rw [hro, Bool.false_or] at h3
    exact renH_some h3
  have chunkAt : ∀ {j c}, getL (renH σ post) j = some c → ∃ i c0, getL post i = some c0 ∧ σ i = j ∧ c = c0.ren σ ∧ (i, c0) ∈ post := by
    intro j c hj
    obtain ⟨i, c0, h1, h2, h3⟩ := renH_at hj
    exact ⟨i, c0, getL_of_nodup c2 h1, h2, h3, h1⟩
  have idsOk : ∀ {i c0}, (i, c0) ∈ post → ∀ j ∈ c0.ids, inB' pre j = true ∨ inB' post j = true := by
    intro i c0 hm j hj
    have := List.all_eq_true.1 c5 j (List.mem_append_right _ (List.mem_flatMap.2 ⟨_, hm, hj⟩))
    simpa using this
  have inPost : ∀ {i c0}, getL post i = some c0 → inB' pre i = true ∨ inB' post i = true := fun h => .inr (by unfold inB'; rw [h]; rfl)
  have wrRen : ∀ {i c0 g}, getL post i = some c0 → Wr β2 (σ i) (c0.ren σ) g → Wr β1 i c0 g := by
    intro i c0 g hi hw
    have h1 : Wr (fun i => β2 (σ i)) i c0 g := by cases c0 <;> exact hw
    exact (Wr.congr (β := fun i => β2 (σ i)) (β' := β1) (b2 i (inPost hi)) g).1 h1
  have blWr : ∀ {i c0 g}, (i, c0) ∈ post → Bl β2 (σ i) (c0.ren σ) g → Wr β2 (σ i) (c0.ren σ) g := by
    intro i c0 g hm hb
    have h1 := List.all_eq_true.1 c4 _ hm
    cases c0 <;> first | exact hb | (simp [roC] at h1)
  have mine : ∀ {i c0 g}, getL post i = some c0 → Wr β1 i c0 g → w.heap.size ≤ g ∨ ∃ j c0, getL s.hp j = some c0 ∧ (getL (renH σ post) j).isSome = true ∧ Wr β j c0 g := by
    intro i c0 g hi hw
    rcases (hok1.1 i c0 hi).mine hw with h | ⟨i2, c2', h2, h3⟩
    · exact .inl h
    · exact .inr (wrSome h2 h3)
  have hmv := hs.move (β' := β2) (w' := w') (T := wrS (fun i => β (σ i)) pre) (renH σ post) b2old hfr1 (fun g hg => by
      obtain ⟨i, c, hi, hw⟩ := hg
      exact wrSome hi hw)
    (fun j c hj => by
      obtain ⟨i, c0, h1, rfl, rfl, hm⟩ := chunkAt hj
      have h2 := (hok1.1 i c0 h1).keep (w' := w') (β' := fun i => β2 (σ i)) (fun _ _ => rfl) (b2 i (inPost h1)).symm (fun j hj => (b2 j (idsOk hm j hj)).symm)
      have h3 : ChOk F (fun i => β2 (σ i)) i w' c0 := h2.frame (fun g hg => by
        rcases h2.mine hg with h | ⟨i2, c2', h4, h5⟩
        · have := hs.2.2.2.2.2.size
          exact .inl (Nat.le_trans this h)
        · obtain ⟨j2, c3', h6, _, h7⟩ := wrSome h4 h5
          exact (hs.2.2.2.1.1 _ _ h6).mine h7)
      cases c0 with
      | cells t cs =>
        simp only [Chunk.ren, ChOk] at h3 ⊢
        rw [denL_ren]
        exact h3
      | lp I sl st pe =>
        simp only [Chunk.ren, ChOk] at h3 ⊢
        obtain ⟨fn, tmps, D, ⟨k1, k2, k3⟩, k4⟩ := h3
        exact ⟨fn, tmps, D, ⟨k1, k2, SlOk.ren.2 k3⟩, k4⟩
      | _ => exact h3)
    (fun j c g hj hg => by
      obtain ⟨i, c0, h1, rfl, rfl, hm⟩ := chunkAt hj
      exact mine h1 (wrRen h1 hg))
    (fun j c g hj hg => by
      obtain ⟨i, c0, h1, rfl, rfl, hm⟩ := chunkAt hj
      rcases mine h1 (wrRen h1 (blWr hm hg)) with h | ⟨k, ck, h2, h3, h4⟩
      · exact .inl h
      · exact .inr ⟨k, ck, h2, h4.bl, .inl h3⟩)
    (fun j k cj ck hne hj hk g hg hb => by
      obtain ⟨i1, d1, h1, rfl, rfl, hm1⟩ := chunkAt hj
      obtain ⟨i2, d2, h2, rfl, rfl, hm2⟩ := chunkAt hk
      exact hok1.2 i1 i2 d1 d2 (fun e => hne (by rw [e])) h1 h2 g (wrRen h1 hg) (wrRen h2 (blWr hm2 hb)).bl)
    (fun j c hj k hk => by
      obtain ⟨i, c0, h1, rfl, rfl, hm⟩ := chunkAt hj
      rw [Chunk.ids_ren] at hk
      obtain ⟨q, hq, rfl⟩ := List.mem_map.1 hk
      rcases idsOk hm q hq with h | h
      · obtain ⟨cq, hcq⟩ := Option.isSome_iff_exists.1 h
        obtain ⟨c', h2, _⟩ := look hcq
        exact isSome_app (by rw [h2]; rfl)
      · rw [getL_append]
        have := renH_some (σ := σ) h
        obtain ⟨cq, hcq⟩ := Option.isSome_iff_exists.1 this
        rw [hcq]
        rfl)
  have resOk : ∀ i ∈ res.ids, inB' pre i = true ∨ inB' post i = true := by
    intro i hi
    have := List.all_eq_true.1 c5 i (List.mem_append_left _ hi)
    simpa using this
  have hden : (res.ren σ).den β2 = res.den β1 := by
    rw [SV.den_ren]
    exact SV.den_congr res (fun i hi => b2 i (resOk i hi))
  have hids : ∀ i ∈ (res.ren σ).ids, (getL (renH σ post ++ s.hp) i).isSome = true := by
    intro i hi
    rw [SV.ids_ren] at hi
    obtain ⟨q, hq, rfl⟩ := List.mem_map.1 hi
    rcases resOk q hq with h | h
    · obtain ⟨cq, hcq⟩ := Option.isSome_iff_exists.1 h
      obtain ⟨c', h2, _⟩ := look hcq
      exact isSome_app (by rw [h2]; rfl)
    · rw [getL_append]
      obtain ⟨cq, hcq⟩ := Option.isSome_iff_exists.1 (renH_some (σ := σ) h)
      rw [hcq]
      rfl
  exact ⟨β2, b2old, by rw [hden], hmv, hids⟩
theorem callsIn_rd {f : FuncId} {args : Array Value} {R : Ending → World → Prop} (r : Option Nat) (n : Nat) (h : Calls P f args w R) : CallsIn (fR r) n P f args w R := show CallsIn Fence.wide n P f args w R from callsIn_wide.2 h

theorem call_gen {sl : List (Nat × SV)} {hp : List (Nat × Chunk)} {d : Option Nat} {ty : TypeId} {pos : String} {af : Array Edge} {g : Option (Nat × Bool)} {fo : Operand} {f : FuncId} {caps : List SV} {xs : List Operand} {ats : Array TypeId} {Xs args : List SV} {pre post hin H : List (Nat × Chunk)} {res R : SV}
    (hspec : Spec P f args pre res post) (σ : Nat → Nat) (hfo : evS sl fo = some (.fn f caps)) (hxs : evL sl xs = some Xs) (hargs : renL σ args = Xs ++ caps) (hR : res.ren σ = R) (hH : renH σ post = H)
    (hm : Match σ hp pre hin) (hck : callB σ pre post res = true) (hfr : (newIds pre post).all (fun i => (getL hp (σ i)).isNone) = true) (ht : dstB nt d = true) :
    OpR P nt ⟨sl, hp⟩ ⟨d, .call { callee := .value fo, args := xs.toArray, argTypes := ats }, ty, pos, af, g⟩ ⟨insOf fo (.fn f caps) ++ insL xs Xs, hin, (newIds pre post).map σ, d, R, H⟩ ⟨putD d R sl, H ++ hp⟩ := by
  subst hR
  subst hH
  refine ⟨⟨rfl, fun F s a w hs hpre => ?_⟩, ⟨?_, hm.pre_, ?_⟩, ?_⟩
  · obtain ⟨β, hs⟩ := hs
    obtain ⟨p1, p2, p3⟩ := hpre
    have q : ∀ p ∈ insOf fo (.fn f caps) ++ insL xs Xs, a.tmps[p.1]? = some (p.2.den β) := fun p hp => hs.2.2.1 _ _ (p1 p hp)
    have ef := eval_of (evC_of hfo) (fun p hp' => q p (List.mem_append_left _ hp'))
    have ex := insL_eval hxs (fun p hp' => q p (List.mem_append_right _ hp'))
    have fresh : ∀ i ∈ newIds pre post, getL s.hp (σ i) = none := fun i hi => p3 _ (List.mem_map.2 ⟨i, hi, rfl⟩)
    have look : ∀ {i c}, getL pre i = some c → ∃ c', getL s.hp (σ i) = some c' ∧ ChLe c' (c.ren σ) := fun hi => by
      obtain ⟨c', h1, h2⟩ := hm.at_ hi
      exact ⟨c', p2 _ h1, h2⟩
    have hcalls := call_core (C := fun β w R => Calls P f (denL β args).toArray w R) (fun β w R R' h hr => Calls.mono h hr) hspec.2 σ hs look hck fresh
    have hargs' : (xs.toArray.map a.eval ++ (denL β caps).toArray) = (denL (fun i => β (σ i)) args).toArray := by
      rw [← denL_ren β σ args, hargs, denL_append, ← ex]
      simp
    have hrun : (execOp a.eval ⟨d, .call { callee := .value fo, args := xs.toArray, argTypes := ats }, ty, pos, af, g⟩).run P w = .ok (.enter f (denL (fun i => β (σ i)) args).toArray) w := by
      simp only [execOp, resolve, ef, SV.den, Deferred.ofValue, Sem.run_bind, Sem.run_pure, Result.andThen_ok, invoke, Array.empty_append]
      rw [hargs']
      exact hspec.1 _ w
    refine ⟨about_wide, ?_⟩
    rw [show (fR F.rd).round = F.rd from rfl, semAt_run (by simp) hrun]
    refine ⟨fun h => (by simp [fR] at h), (callsIn_rd F.rd _ hcalls).mono ?_⟩
    rintro e w' ⟨β2, _, rfl, hmv, hids⟩
    dsimp only
    cases d with
    | none => exact ⟨β2, hmv⟩
    | some t =>
      exact ⟨β2, hmv.put (t := t) (x := res.ren σ) (by simp [dstB, Nat.blt] at ht; omega) hids⟩
  · intro p hp'
    rcases List.mem_append.1 hp' with h1 | h1
    · exact insOf_pre (s := ⟨sl, hp⟩) hfo p h1
    · exact insL_pre (s := ⟨sl, hp⟩) hxs p h1
  · intro i hi
    obtain ⟨k, hk, rfl⟩ := List.mem_map.1 hi
    have := List.all_eq_true.1 hfr k hk
    simpa using this
  · cases d <;> rfl
/-- Names by a list. -/
def sg (l : List (Nat × Nat)) (i : Nat) : Nat := (getL l i).getD i
/-- An argument without elements, whatever it is. -/
theorem Spec.empties {f : FuncId} {id : Nat} {α : Type} {E : Enc α} {res : SV} {post : List (Nat × Chunk)} (hck : ((res.ids ++ post.flatMap fun p => p.1 :: p.2.ids).all fun i => !Nat.beq i id) = true) (h : ∀ ao cp, Spec P f [.v (.slice ao 0 cp)] [] res post) : Spec P f [.a id 0] [(id, .ro E [])] res post := by
  refine ⟨(h none 0).1, fun β w hok => ?_⟩
  have h1 := (h (β id).dn (β id).cap).2 β w ⟨fun i c hi => by simp [getL] at hi, fun i j ci cj _ hi => by simp [getL] at hi⟩
  refine (show Calls P f (denL β [.a id 0]).toArray w _ from h1).mono ?_
  rintro e w' ⟨β1, _, rfl, hok1, hfr⟩
  have noW : ∀ g, ¬ wrS β [] g := by rintro g ⟨i, c, hi, _⟩; simp [getL] at hi
  have agree : ∀ i, i ∈ res.ids ++ post.flatMap (fun p => p.1 :: p.2.ids) → upd β1 id (β id) i = β1 i := fun i hi => by
    have := List.all_eq_true.1 hck i hi
    exact upd_other _ _ (fun e => by subst e; simp at this)
  refine ⟨upd β1 id (β id), fun i hi => ?_, ?_, ⟨fun i c hi => ?_, fun i j ci cj hne hi hj g hw hb => ?_⟩, hfr.mono (fun g _ hg => (noW g hg).elim)⟩
  · have : i = id := by
      simp only [getL_cons] at hi
      split at hi
      · rename_i e; exact e.symm
      · simp [getL] at hi
    subst this
    rw [upd_same]
  · congr 1
    exact SV.den_congr res (fun i hi => (agree i (List.mem_append_left _ hi)).symm)
  · have hm := getL_mem hi
    have h5 := (hok1.1 i c hi).keep (w' := w') (β' := upd β1 id (β id)) (fun _ _ => rfl) (agree i (List.mem_append_right _ (List.mem_flatMap.2 ⟨_, hm, List.mem_cons_self ..⟩))).symm
      (fun j hj => (agree j (List.mem_append_right _ (List.mem_flatMap.2 ⟨_, hm, List.mem_cons_of_mem _ hj⟩))).symm)
    refine h5.frame (fun g hg => ?_)
    rcases h5.mine hg with h6 | h6
    · exact .inl h6
    · exact (noW g h6).elim
  · have ai := agree i (List.mem_append_right _ (List.mem_flatMap.2 ⟨_, getL_mem hi, List.mem_cons_self ..⟩))
    have aj := agree j (List.mem_append_right _ (List.mem_flatMap.2 ⟨_, getL_mem hj, List.mem_cons_self ..⟩))
    exact hok1.2 i j ci cj hne hi hj g ((Wr.congr ai g).1 hw) ((Bl.congr aj g).1 hb)
end
end Go.Proofs.Ytiboffhdabeiiaa
