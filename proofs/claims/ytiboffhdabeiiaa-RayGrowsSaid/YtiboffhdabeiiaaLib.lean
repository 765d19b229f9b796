/-
  Memory words: a block known whole, a slice that reads as a list, what a call may have turned. Plain lemmas, no program in sight.
-/
import Derived.WalkKit
import Derived.WalkSpells
import Derived.Deep.Draws
import Derived.Deep.AppendLies
namespace Go.Proofs.Ytiboffhdabeiiaa
open Go.RowKit

/-- Block g is just the cells cs of element type t, none frozen. -/
def Blk (w : World) (g : Nat) (t : TypeId) (cs : Array Value) : Prop := w.heap[g]? = some (.cells cs t (0, 0))

/-- Outside of the blocks in S (and what is new) the world w' is as w was. -/
structure Fr (S : Nat → Prop) (w w' : World) : Prop where
  os : w'.os = w.os
  tape : w'.tape = w.tape
  output : w'.output = w.output
  size : w.heap.size ≤ w'.heap.size
  block : ∀ k, k < w.heap.size → ¬ S k → w'.heap[k]? = w.heap[k]?

section
variable {S : Nat → Prop} {w w' w'' : World}
theorem Fr.refl (S : Nat → Prop) (w : World) : Fr S w w := ⟨rfl, rfl, rfl, Nat.le_refl _, fun _ _ _ => rfl⟩
theorem Fr.trans (h : Fr S w w') (k : Fr S w' w'') : Fr S w w'' :=
  ⟨k.os.trans h.os, k.tape.trans h.tape, k.output.trans h.output, Nat.le_trans h.size k.size, fun i hi hn => (k.block i (Nat.lt_of_lt_of_le hi h.size) hn).trans (h.block i hi hn)⟩
/-- New blocks of w may be turned by the second step, too. -/
theorem Fr.trans' {T : Nat → Prop} (h : Fr S w w') (k : Fr T w' w'') (hT : ∀ i, i < w.heap.size → T i → S i) : Fr S w w'' :=
  ⟨k.os.trans h.os, k.tape.trans h.tape, k.output.trans h.output, Nat.le_trans h.size k.size, fun i hi hn => (k.block i (Nat.lt_of_lt_of_le hi h.size) (fun ht => hn (hT i hi ht))).trans (h.block i hi hn)⟩
theorem Fr.mono {T : Nat → Prop} (h : Fr S w w') (hT : ∀ i, i < w.heap.size → S i → T i) : Fr T w w' :=
  ⟨h.os, h.tape, h.output, h.size, fun i hi hn => h.block i hi (fun hs => hn (hT i hi hs))⟩
theorem Fr.drew (h : Fr S w w') : Fr S w w'.drew := ⟨h.os, h.tape, h.output, h.size, h.block⟩
theorem Fr.undrew (h : Fr S w.drew w') : Fr S w w' := ⟨h.os, h.tape, h.output, h.size, h.block⟩
theorem Fr.undrewN {n : Nat} (h : Fr S (w.drewN n) w') : Fr S w w' := ⟨h.os, h.tape, h.output, h.size, h.block⟩
theorem Fr.drewN (h : Fr S w w') (n : Nat) : Fr S w (w'.drewN n) := ⟨h.os, h.tape, h.output, h.size, h.block⟩
theorem Fr.alloc (h : Fr S w w') (o : Obj) : Fr S w (w'.alloc o) :=
  ⟨h.os, h.tape, h.output, Nat.le_trans h.size (by simp), fun k hk hn => (Below.heap_alloc w' o k (Nat.lt_of_lt_of_le hk h.size)).trans (h.block k hk hn)⟩
theorem Fr.setCell (h : Fr S w w') {p : Addr} (hp : S p.block ∨ w.heap.size ≤ p.block) (u : Value) : Fr S w (w'.setCell p u) :=
  ⟨h.os, h.tape, h.output, by simpa [World.setCell] using h.size, fun k hk hn => (Below.heap_setCell w' p u k (by
    rintro rfl
    rcases hp with hp | hp
    · exact hn hp
    · omega)).trans (h.block k hk hn)⟩
theorem Fr.below {B : Nat} (h : Fr S w w') (hS : ∀ k, k < B → k < w.heap.size → ¬ S k) (hB : B ≤ w.heap.size) : Below B w w' :=
  ⟨h.os, h.tape, h.output, h.size, fun k hk => h.block k (by omega) (hS k hk (by omega))⟩
theorem Fr.of_below (h : Below w.heap.size w w') (S : Nat → Prop) : Fr S w w' := ⟨h.os, h.tape, h.output, h.size, fun k hk _ => h.block k hk⟩
theorem Fr.cell (h : Fr S w w') {p : Addr} (hlt : p.block < w.heap.size) (hn : ¬ S p.block) : w'.cell? p = w.cell? p := World.cell?_of_block (h.block _ hlt hn)
theorem Fr.none_ (h : Fr (fun _ => False) w w') : Below w.heap.size w w' := h.below (fun _ _ _ h => h) (Nat.le_refl _)
theorem Fr.of_grown {row : Option Nat} (h : w.grownBy w' row) (hr : ∀ k, k < w.heap.size → row = some k → S k) : Fr S w w' :=
  ⟨h.os, h.tape, h.output, h.size, fun k hk hn => h.block k hk (fun e => hn (hr k hk e.symm))⟩
end

section
variable {w w' : World} {g : Nat} {t : TypeId} {cs : Array Value}
theorem Blk.lt (h : Blk w g t cs) : g < w.heap.size := by
  rcases Nat.lt_or_ge g w.heap.size with hlt | hge
  · exact hlt
  · unfold Blk at h; rw [Array.getElem?_eq_none hge] at h; cases h
theorem Blk.cell (h : Blk w g t cs) (i : Nat) : w.cell? ⟨g, i, none⟩ = cs[i]? := cell_of_row w g i cs t (0, 0) h
theorem Blk.frozen (h : Blk w g t cs) (i : Nat) : w.frozen? ⟨g, i, none⟩ = false := by
  unfold Blk at h
  simp [World.frozen?, h]
theorem Blk.new (w : World) (t : TypeId) (cs : Array Value) : Blk (w.alloc (.cells cs t)) w.heap.size t cs := heap_alloc_new w _
theorem Blk.drew (h : Blk w g t cs) : Blk w.drew g t cs := h
theorem Blk.drewN (h : Blk w g t cs) (n : Nat) : Blk (w.drewN n) g t cs := h
theorem Blk.alloc (h : Blk w g t cs) (o : Obj) : Blk (w.alloc o) g t cs := (Below.heap_alloc w o g h.lt).trans h
theorem Blk.set_ (h : Blk w g t cs) (i : Nat) (u : Value) : Blk (w.setCell ⟨g, i, none⟩ u) g t (cs.setIfInBounds i u) := by
  unfold Blk at h ⊢
  simp [World.setCell, Array.getElem?_modify, h]
theorem Blk.far (h : Blk w g t cs) {p : Addr} (hp : g ≠ p.block) (u : Value) : Blk (w.setCell p u) g t cs := (Below.heap_setCell w p u g hp).trans h
theorem Blk.below {B : Nat} (h : Blk w g t cs) (hb : Below B w w') (hg : g < B) : Blk w' g t cs := (hb.block g hg).trans h
theorem Blk.fr {S : Nat → Prop} (h : Blk w g t cs) (hb : Fr S w w') (hg : ¬ S g) : Blk w' g t cs := (hb.block g h.lt hg).trans h
theorem Blk.grown {row : Option Nat} (h : Blk w g t cs) (hb : w.grownBy w' row) (hg : some g ≠ row) : Blk w' g t cs := (hb.block g h.lt hg).trans h
theorem Blk.ne_ {g' : Nat} {t' : TypeId} {cs' : Array Value} (h : Blk w g t cs) (h' : Blk w g' t' cs') (hne : t ≠ t') : g ≠ g' := by
  rintro rfl
  unfold Blk at h h'
  rw [h] at h'
  injection h' with h'
  injection h' with _ ht
  exact hne ht
end

/-- Natural numbers, as ints. -/
def nats (l : List Nat) : Array Value := (l.map fun k : Nat => Value.int .i64 (k : Int)).toArray
theorem nats_size (l : List Nat) : (nats l).size = l.length := by simp [nats]
theorem nats_at {l : List Nat} {i j : Nat} (h : l[i]? = some j) : (nats l)[i]? = some (.int .i64 (j : Int)) := by simp [nats, h]
theorem nats_set (l : List Nat) (i j : Nat) : (nats l).setIfInBounds i (.int .i64 (j : Int)) = nats (l.set i j) := by
  simp [nats, List.map_set]
/-- The same as a list. -/
def natl (l : List Nat) : List Value := l.map fun k : Nat => Value.int .i64 (k : Int)
theorem nats_eq (l : List Nat) : nats l = (natl l).toArray := rfl
theorem natl_len (l : List Nat) : (natl l).length = l.length := by simp [natl]
theorem natl_at {l : List Nat} {i j : Nat} (h : l[i]? = some j) : (natl l)[i]? = some (.int .i64 (j : Int)) := by simp [natl, h]
theorem natl_snoc (l : List Nat) (k : Nat) : natl (l ++ [k]) = natl l ++ [.int .i64 (k : Int)] := by simp [natl]
theorem natl_one (l : List Nat) : ∀ u ∈ natl l, u.oneCell' = true := by
  intro u hu
  simp [natl] at hu
  obtain ⟨k, _, rfl⟩ := hu
  rfl
/-- Integers, as ints. -/
def ints (l : List Int) : Array Value := (l.map fun k : Int => Value.int .i64 k).toArray
theorem ints_size (l : List Int) : (ints l).size = l.length := by simp [ints]
theorem ints_at {l : List Int} {i : Nat} {j : Int} (h : l[i]? = some j) : (ints l)[i]? = some (.int .i64 j) := by simp [ints, h]
theorem ints_set (l : List Int) (i : Nat) (j : Int) : (ints l).setIfInBounds i (.int .i64 j) = ints (l.set i j) := by
  simp [ints, List.map_set]
def intl (l : List Int) : List Value := l.map fun k : Int => Value.int .i64 k
theorem ints_eq (l : List Int) : ints l = (intl l).toArray := rfl
theorem intl_len (l : List Int) : (intl l).length = l.length := by simp [intl]
theorem intl_at {l : List Int} {i : Nat} {j : Int} (h : l[i]? = some j) : (intl l)[i]? = some (.int .i64 j) := by simp [intl, h]
theorem intl_snoc (l : List Int) (k : Int) : intl (l ++ [k]) = intl l ++ [.int .i64 k] := by simp [intl]
theorem intl_one (l : List Int) : ∀ u ∈ intl l, u.oneCell' = true := by
  intro u hu
  simp [intl] at hu
  obtain ⟨k, _, rfl⟩ := hu
  rfl
def bytl (l : List Nat) : List Value := l.map fun k : Nat => Value.int .u8 (k : Int)
theorem bytl_len (l : List Nat) : (bytl l).length = l.length := by simp [bytl]
theorem bytl_at {l : List Nat} {i j : Nat} (h : l[i]? = some j) : (bytl l)[i]? = some (.int .u8 (j : Int)) := by simp [bytl, h]
theorem ret_int {k : IntKind} {a b : Int} (h : a = b) : Ending.returned (.int k a) = .returned (.int k b) := by rw [h]
theorem ret_bool {a b : Bool} (h : a = b) : Ending.returned (.bool a) = .returned (.bool b) := by rw [h]
theorem Blk.new_ {w : World} {g : Nat} {t : TypeId} {cs : Array Value} (h : g = w.heap.size) : Blk (w.alloc (.cells cs t)) g t cs := by subst h; exact heap_alloc_new w _
end Go.Proofs.Ytiboffhdabeiiaa
