/-
  The symbolic state: strings, arrays of bytes. Plain lemmas over any program.
-/
import Derived.Test.YtiboffhdabeiiaaSxN
import Derived.Laws.Strings
import Derived.Laws.BytesString
import Derived.Laws.Concat
namespace Go.Proofs.Ytiboffhdabeiiaa
open Go Go.RowKit

def eInt : Enc Int where
  size := 1
  enc n := [.int .i64 n]
  dec | [.int .i64 n] => some n
      | _ => none
  zero := 0
  len _ := rfl
  pos := by decide
  one := by intro a u hu; simp at hu; subst hu; rfl
  decL := by
    intro l a h
    split at h
    · injection h with h; subst h; rfl
    · cases h
def eByt : Enc Nat where
  size := 1
  enc n := [.int .u8 (n : Int)]
  dec | [.int .u8 (.ofNat n)] => some n
      | _ => none
  zero := 0
  len _ := rfl
  pos := by decide
  one := by intro a u hu; simp at hu; subst hu; rfl
  decL := by
    intro l a h
    split at h
    · injection h with h; subst h; rfl
    · cases h
def eBool : Enc Bool where
  size := 1
  enc b := [.bool b]
  dec | [.bool b] => some b
      | _ => none
  zero := false
  len _ := rfl
  pos := by decide
  one := by intro a u hu; simp at hu; subst hu; rfl
  decL := by
    intro l a h
    split at h
    · injection h with h; subst h; rfl
    · cases h

class TyStr (P : Program) (T : TypeId) : Prop where
  h : P.underlying T = some .string
/-- A string by its bytes. -/
def bs (l : List Nat) : ByteArray := ⟨(l.map UInt8.ofNat).toArray⟩
@[reducible] def stv (l : List Nat) : SV := .v (.string (bs l))
theorem bs_size (l : List Nat) : (bs l).size = l.length := by simp [bs, ByteArray.size]
theorem bs_append (l m : List Nat) : bs l ++ bs m = bs (l ++ m) := by
  apply ByteArray.ext
  rw [ByteArray.data_append]
  simp [bs]
theorem bs_push (l : List Nat) (b : Nat) : (bs l).push (UInt8.ofNat b) = bs (l ++ [b]) := by
  apply ByteArray.ext
  simp [bs, ByteArray.push]
theorem bs_inj {l m : List Nat} (hl : ∀ x ∈ l, x < 256) (hm : ∀ x ∈ m, x < 256) : bs l = bs m ↔ l = m := by
  constructor
  · intro h
    have h1 : (bs l).data.toList = (bs m).data.toList := by rw [h]
    simp only [bs] at h1
    have h2 := congrArg (List.map UInt8.toNat) h1
    simp only [List.map_map] at h2
    have e : ∀ k : List Nat, (∀ x ∈ k, x < 256) → k.map (UInt8.toNat ∘ UInt8.ofNat) = k := by
      intro k hk
      induction k with
      | nil => rfl
      | cons a k ih =>
        rw [List.map_cons, ih (fun x hx => hk x (List.mem_cons_of_mem _ hx))]
        congr 1
        simp
        exact hk a (List.mem_cons_self ..)
    rwa [e l hl, e m hm] at h2
  · rintro rfl; rfl
theorem bs_foldl (ns : List Int) (l : List Nat) : ns.foldl (fun r n => r.push (UInt8.ofNat n.toNat)) (bs l) = bs (l ++ ns.map Int.toNat) := by
  induction ns generalizing l with
  | nil => simp
  | cons n ns ih => rw [List.foldl_cons, bs_push, ih]; simp

theorem flat_byt (l : List Nat) : flat eByt l = l.map fun b : Nat => Value.int .u8 (b : Int) := by
  induction l with
  | nil => rfl
  | cons x l ih =>
    have : flat eByt (x :: l) = eByt.enc x ++ flat eByt l := by simp [flat]
    rw [this, ih]
    rfl
theorem eByt_size : eByt.size = 1 := rfl
section
variable {P : Program} {nt : Nat} {o : Oper} {sl : List (Nat × SV)} {hp : List (Nat × Chunk)} {t : Nat}
variable {ty : TypeId} {pos : String} {af : Array Edge} {g : Option (Nat × Bool)}

theorem OpR.strEql {T T' : TypeId} {x y : Operand} {l m : List Nat} (hl : ∀ x ∈ l, x < 256) (hm : ∀ x ∈ m, x < 256) (hx : evS sl x = some (stv l)) (hy : evS sl y = some (.v (.string (bs m)))) (ht : Nat.blt t nt = true) :
    OpR P nt ⟨sl, hp⟩ ⟨some t, .binOp .eql T x y T', ty, pos, af, g⟩ ⟨insOf x (stv l) ++ insOf y (stv m), [], [], some t, .v (.bool (decide (l = m))), []⟩ ⟨(t, .v (.bool (decide (l = m)))) :: sl, hp⟩ :=
  OpR.binv hx hy ht fun w => by
    have e : ((bs l).toList == (bs m).toList) = decide (l = m) := by
      rw [ByteArray.toList_eq, ByteArray.toList_eq, Bool.eq_iff_iff]
      simp only [beq_iff_eq, decide_eq_true_eq, Array.toList_inj]
      rw [← bs_inj hl hm, ByteArray.ext_iff]
    simp only [Sem.run_bind, eqGuard, ite_self, Sem.run_pure, Result.andThen_ok, binOp_string_eql, e]
theorem OpR.strNeq {T T' : TypeId} {x y : Operand} {l m : List Nat} (hl : ∀ x ∈ l, x < 256) (hm : ∀ x ∈ m, x < 256) (hx : evS sl x = some (stv l)) (hy : evS sl y = some (.v (.string (bs m)))) (ht : Nat.blt t nt = true) :
    OpR P nt ⟨sl, hp⟩ ⟨some t, .binOp .neq T x y T', ty, pos, af, g⟩ ⟨insOf x (stv l) ++ insOf y (stv m), [], [], some t, .v (.bool (decide (l ≠ m))), []⟩ ⟨(t, .v (.bool (decide (l ≠ m)))) :: sl, hp⟩ :=
  OpR.binv hx hy ht fun w => by
    have e : (!((bs l).toList == (bs m).toList)) = decide (l ≠ m) := by
      rw [ByteArray.toList_eq, ByteArray.toList_eq, Bool.eq_iff_iff]
      simp only [Bool.not_eq_true', beq_eq_false_iff_ne, decide_eq_true_eq, ne_eq, Array.toList_inj]
      rw [← bs_inj hl hm, ByteArray.ext_iff]
    simp only [Sem.run_bind, eqGuard, ite_self, Sem.run_pure, Result.andThen_ok, binOp_string_neq, e]
theorem OpR.strAdd {T T' : TypeId} {x y : Operand} {l m : List Nat} (h : l.length + m.length ≤ 1000000) (hx : evS sl x = some (.v (.string (bs l)))) (hy : evS sl y = some (.v (.string (bs m)))) (ht : Nat.blt t nt = true) :
    OpR P nt ⟨sl, hp⟩ ⟨some t, .binOp .add T x y T', ty, pos, af, g⟩ ⟨insOf x (stv l) ++ insOf y (stv m), [], [], some t, stv (l ++ m), []⟩ ⟨(t, stv (l ++ m)) :: sl, hp⟩ :=
  OpR.binv hx hy ht fun w => by
    simp only [Sem.run_bind, eqGuard, ite_self, Sem.run_pure, Result.andThen_ok, binOp_string_add]
    rw [run_string_add_sum w _ _ (by rw [bs_size, bs_size]; omega), bs_append]
theorem OpR.strLen {T : TypeId} {x : Operand} {l : List Nat} [hT : TyStr P T] (hx : evS sl x = some (.v (.string (bs l)))) (ht : Nat.blt t nt = true) :
    OpR P nt ⟨sl, hp⟩ ⟨some t, .call { callee := .builtin .len, args := #[x], argTypes := #[T] }, ty, pos, af, g⟩ ⟨insOf x (stv l), [], [], some t, .v (.int .i64 (l.length : Int)), []⟩ ⟨(t, .v (.int .i64 (l.length : Int))) :: sl, hp⟩ :=
  OpR.q1 rfl ht hx (fun j hj => by simp [SV.ids] at hj) fun β a w h1 => by
    simp [execOp, resolve, invoke, builtin, h1, SV.den, Builtin.len_, run_underlying hT.h, goInt, bs_size]
theorem OpR.strIndex {T : TypeId} {x y : Operand} {l : List Nat} {k b : Nat} {kd : IntKind} [hT : TyStr P T] (hl : ∀ x ∈ l, x < 256) (hb : l[k]? = some b) (hx : evS sl x = some (.v (.string (bs l)))) (hy : evS sl y = some (.v (.int kd (k : Int)))) (ht : Nat.blt t nt = true) :
    OpR P nt ⟨sl, hp⟩ ⟨some t, .index T x y, ty, pos, af, g⟩ ⟨insOf x (stv l) ++ insOf y (.v (.int kd (k : Int))), [], [], some t, .v (.int .u8 (b : Int)), []⟩ ⟨(t, .v (.int .u8 (b : Int))) :: sl, hp⟩ :=
  OpR.q2 rfl ht hx hy (fun j hj => by simp [SV.ids] at hj) fun β a w h1 h2 => by
    have e : (bs l)[k]? = some (UInt8.ofNat b) := by
      obtain ⟨h3, h4⟩ := List.getElem?_eq_some_iff.1 hb
      rw [getElem?_pos (bs l) k (by rw [bs_size]; exact h3)]
      simp [bs, ByteArray.getElem_eq_getElem_data, h4]
    have hb' : b < 256 := hl b (List.mem_of_getElem? hb)
    simp only [execOp, h1, h2, SV.den, Instr.index, asIntOf, Sem.run_bind, Sem.run_pure, Result.andThen_ok, run_underlying hT.h]
    rw [if_pos (by omega), Int.toNat_natCast, e]
    simp [Nat.mod_eq_of_lt hb']
theorem bs_extract (l : List Nat) (i j : Nat) : (bs l).extract i j = bs ((l.take j).drop i) := by
  apply ByteArray.ext
  rw [ByteArray.data_extract]
  apply Array.ext'
  simp [bs, List.map_drop, List.map_take, List.extract_eq_take_drop, List.drop_take]
theorem OpR.strSlice {T : TypeId} {x : Operand} {lo hi : Option Operand} {I J : List (Nat × SV)} {l : List Nat} {i j : Nat} [hT : TyStr P T] (hx : evS sl x = some (.v (.string (bs l)))) (hlo : Bnd sl 0 lo I i) (hhi : Bnd sl l.length hi J j) (hij : i ≤ j) (hjn : j ≤ l.length) (ht : Nat.blt t nt = true) :
    OpR P nt ⟨sl, hp⟩ ⟨some t, .slice T x lo hi none, ty, pos, af, g⟩ ⟨insOf x (stv l) ++ (I ++ J), [], [], some t, stv ((l.take j).drop i), []⟩ ⟨(t, stv ((l.take j).drop i)) :: sl, hp⟩ := by
  refine ⟨StepOk.quiet rfl (by simp [Nat.blt] at ht; omega) (fun s _ _ _ i hi => by simp [SV.ids] at hi) (fun F β a w hp' _ => ?_), ⟨?_, by simp, by simp⟩, rfl⟩
  · have ex := eval_of (evC_of hx) (fun p hp => hp' p (List.mem_append_left _ hp))
    have hb := run_sliceBounds (P := P) (w := w) (s := false) (cap := l.length) hlo hhi (fun p hp => hp' p (List.mem_append_right _ (List.mem_append_left _ hp))) (fun p hp => hp' p (List.mem_append_right _ (List.mem_append_right _ hp))) hij hjn
    simp only [execOp, ex, SV.den, Instr.sliceAt, Sem.run_bind, run_underlying hT.h, Result.andThen_ok, Instr.slice, Option.map_none, Option.isSome_none, Bool.false_eq_true, if_false, Sem.run_pure, bs_size, hb, bs_extract]
  · intro p hp'
    rcases List.mem_append.1 hp' with h1 | h1
    · exact insOf_pre (s := ⟨sl, hp⟩) hx p h1
    · rcases List.mem_append.1 h1 with h1 | h1
      · exact hlo.pre p h1
      · exact hhi.pre p h1
/-! ### An array of bytes -/
def eB8 : Enc Int where
  size := 1
  enc n := [.int .u8 n]
  dec | [.int .u8 n] => some n
      | _ => none
  zero := 0
  len _ := rfl
  pos := by decide
  one := by intro a u hu; simp at hu; subst hu; rfl
  decL := by
    intro l a h
    split at h
    · injection h with h; subst h; rfl
    · cases h
theorem flat_b8 (l : List Int) : flat eB8 l = l.map fun b : Int => Value.int .u8 b := by
  induction l with
  | nil => rfl
  | cons x l ih =>
    have : flat eB8 (x :: l) = eB8.enc x ++ flat eB8 l := by simp [flat]
    rw [this, ih]
    rfl
theorem eB8_size : eB8.size = 1 := rfl
def byS (l : List Int) : List SV := l.map fun b : Int => .v (.int .u8 b)
theorem OpR.convStr {S T e : TypeId} {sz : Nat} {x : Operand} {id n : Nat} {c : Chunk} {l : List Int} [hS : TySlice P S e sz] [he : TyInt P e .u8] [hT : TyStr P T] (hx : evS sl x = some (.a id n)) (hc : getL hp id = some c) [hr : RowC c eB8 l] (hl : l.length = n) (ht : Nat.blt t nt = true) :
    OpR P nt ⟨sl, hp⟩ ⟨some t, .convert S T x, ty, pos, af, g⟩ ⟨insOf x (.a id n), [(id, c)], [], some t, stv (l.map Int.toNat), []⟩ ⟨(t, stv (l.map Int.toNat)) :: sl, hp⟩ := by
  refine OpR.look rfl ht hx hc (fun i hi => by simp [SV.ids] at hi) fun F β a w h1 h3 => ?_
  subst hl
  have hrd := hr.read h3
  have conv : (convert S T (.slice (β id).dn l.length (β id).cap)).run P w = .ok (.string (bs (l.map Int.toNat))) w := by
    rw [run_convert_bytes_string w S T e _ _ _ hS.h he.h hT.h]
    cases hd : (β id).dn with
    | none =>
      have : l = [] := by
        cases l with
        | nil => rfl
        | cons b l =>
          have := (hrd (by simp)).1.1
          simp [BI.dn, this] at hd
      subst this
      rfl
    | some ad =>
      have hcells : (loadCells ad l.length).run P w = .ok (l.map (Value.int .u8)).toArray w := by
        cases l with
        | nil => rfl
        | cons b r =>
          obtain ⟨⟨k1, _⟩, k2⟩ := hrd (by simp)
          have hd' : ad = ⟨(β id).B, (β id).O, none⟩ := by simp [BI.dn, k1] at hd; exact hd.symm
          subst hd'
          have := run_loadCells_list (P := P) (w := w) ⟨(β id).B, (β id).O, none⟩ (flat eB8 (b :: r)) (fun i v hv => by rw [add_lit]; exact k2 i v hv)
          rw [flat_len, eB8_size, Nat.mul_one] at this
          rw [this, flat_b8]
      rw [run_bytesToString w ad l.length _ _ hcells]
      have := bs_foldl l []
      rw [show (ByteArray.empty : ByteArray) = bs [] from rfl, this]
      simp
  simp only [execOp, h1, SV.den, Sem.run_bind, conv, Result.andThen_ok, Sem.run_pure]

class TyArr (P : Program) (T : TypeId) (n : outParam Nat) (e : outParam TypeId) (sz : outParam Nat) : Prop where
  h : P.underlying T = some (.array n e)
  hn : (P.info? e).map (·.size) = some sz
theorem OpR.indexArrE {T : TypeId} {x y : Operand} {id m : Nat} {i : Int} {e sz : Nat} {kd : IntKind} [hT : TyArr P T m e sz] (hx : evS sl x = some (.e id sz 0 0)) (hy : evS sl y = some (.v (.int kd i))) (h0 : 0 ≤ i) (hk : i < m) (ht : Nat.blt t nt = true) :
    OpR P nt ⟨sl, hp⟩ ⟨some t, .indexAddr T x y, ty, pos, af, g⟩ ⟨insOf x (.e id sz 0 0) ++ insOf y (.v (.int kd i)), [], [], some t, .e id sz i.toNat 0, []⟩ ⟨(t, .e id sz i.toNat 0) :: sl, hp⟩ :=
  OpR.q2 rfl ht hx hy (fun j hj => .inl hj) fun β a w h1 h2 => by
    obtain ⟨k, rfl⟩ := Int.eq_ofNat_of_zero_le h0
    have hk' : k < m := by omega
    simp [execOp, h1, h2, SV.den, Instr.indexAt, asIntOf, run_underlying hT.h, hk', run_sizeOf' hT.hn, add_lit, Instr.sureAddr]
theorem den_byS (β : Nat → BI) (l : List Int) : denL β (byS l) = flat eB8 l := by
  rw [flat_b8, denL_eq, byS, List.map_map]
  rfl
/-- An array's cells, as a row that may be written. -/
theorem TL.viewArr {fx : List Nat} {k : List It} {K : Exit → St → Prop} (u id id' : Nat) {T : TypeId} (l : List Int) (hu : getL sl u = some (.p id 0)) (hc : getL hp id = some (.cells T (byS l))) (hn : Nat.blt u nt = true) (hi : getL hp id' = none)
    (h : TL P nt fx k ⟨(u, .e id' 1 0 0) :: sl, (id', .mt eB8 l) :: (id, .dead) :: hp⟩ K) : TL P nt fx k ⟨sl, hp⟩ K := .mk fun F a w hf hs => by
  refine h.run F a w hf ?_
  obtain ⟨β, hs⟩ := hs
  have hti : id' ≠ id := by rintro rfl; rw [hi] at hc; cases hc
  have hok := hs.2.2.2.1.1 _ _ hc
  obtain ⟨k1, k2, k3, k4⟩ := hok
  let b : BI := ⟨false, (β id).B, 0, l.length, none, []⟩
  have one : ∀ {k d}, getL [(id', Chunk.mt eB8 l), (id, .dead)] k = some d → (k = id' ∧ d = .mt eB8 l) ∨ (k = id ∧ d = .dead) := by
    intro k d hk
    rw [getL_cons] at hk
    split at hk
    · rename_i e1
      injection hk with hk
      exact .inl ⟨e1.symm, hk.symm⟩
    · rw [getL_cons] at hk
      split at hk
      · rename_i e1
        injection hk with hk
        exact .inr ⟨e1.symm, hk.symm⟩
      · simp [getL] at hk
  have some_id : (getL [(id', Chunk.mt eB8 l), (id, .dead)] id).isSome = true := by
    rw [getL_cons, if_neg hti, getL_cons, if_pos rfl]
    rfl
  have hmv := hs.move (β' := upd β id' b) (w' := w) (T := fun _ => False) [(id', .mt eB8 l), (id, .dead)] (upd_old hi) (Fr.refl _ w) (fun _ h => h.elim)
    (fun k d hk => by
      rcases one hk with ⟨rfl, rfl⟩ | ⟨rfl, rfl⟩
      · have e1 : RdOk (upd β k b) k w eB8 l := by
          intro _
          rw [upd_same]
          refine ⟨⟨rfl, by simp [b]⟩, fun j u hu => ?_⟩
          rw [cell_of_row w _ _ _ T (0, 0) k3, den_byS]
          simpa [b] using hu
        have e2 : ChOk F (upd β k b) k w (.mt eB8 l) := by
          refine ⟨e1, fun _ => ?_⟩
          rw [upd_same]
          exact ⟨k4, fun j _ => by simp [World.frozen?, b, k3]⟩
        exact e2
      · trivial)
    (fun k d g hk hg => by
      rcases one hk with ⟨rfl, rfl⟩ | ⟨rfl, rfl⟩
      · obtain ⟨_, hg⟩ := hg
        rw [upd_same] at hg
        exact .inr ⟨id, _, hc, some_id, hg⟩
      · exact hg.elim)
    (fun k d g hk hg => by
      rcases one hk with ⟨rfl, rfl⟩ | ⟨rfl, rfl⟩
      · obtain ⟨_, hg⟩ := hg
        rw [upd_same] at hg
        exact .inr ⟨id, _, hc, hg, .inl some_id⟩
      · exact hg.elim)
    (fun k k' d d' hne hk hk' g hg hb => by
      rcases one hk with ⟨rfl, rfl⟩ | ⟨rfl, rfl⟩
      · rcases one hk' with ⟨rfl, rfl⟩ | ⟨rfl, rfl⟩
        · exact hne rfl
        · exact hb.elim
      · exact hg.elim)
    (fun k d hk q hq => by
      rcases one hk with ⟨rfl, rfl⟩ | ⟨rfl, rfl⟩ <;> simp [Chunk.ids] at hq)
  obtain ⟨m1, m2, m3, m4, m5, m6⟩ := hmv
  refine ⟨_, m1, m2, ?_, m4, ⟨?_, m5.2⟩, m6⟩
  · intro v y hv
    simp only [getL_cons] at hv
    split at hv
    · rename_i e
      subst e
      injection hv with hv
      subst hv
      rw [hs.2.2.1 _ _ hu]
      simp [SV.den, upd_same, b]
    · exact m3 v y hv
  · intro v y hv i hi'
    simp only [getL_cons] at hv
    split at hv
    · injection hv with hv
      subst hv
      have : i = id' := by simpa [SV.ids] using hi'
      subst this
      simp [getL_cons]
    · exact m5.1 v y hv i hi'
/-- An array's rest, that from now on is only read. -/
theorem OpR.sliceArrE {T : TypeId} {x y : Operand} {m id e sz : Nat} {i : Int} {kd : IntKind} {l : List Int} [hT : TyArr P T m e sz] (hx : evS sl x = some (.e id 1 0 0)) (hy : evS sl y = some (.v (.int kd i))) (hc : getL hp id = some (.mt eB8 l)) (hs : sz = 1) (hl : l.length = m) (h0 : 0 ≤ i) (hi : i < m) (ht : Nat.blt t nt = true) (hf : getL hp t = none) :
    OpR P nt ⟨sl, hp⟩ ⟨some t, .slice T x (some y) none none, ty, pos, af, g⟩ ⟨insOf x (.e id 1 0 0) ++ insOf y (.v (.int kd i)), [(id, .mt eB8 l)], [t], some t, .a t (m - i.toNat), [(t, .ro eB8 (l.drop i.toNat)), (id, .dead)]⟩ ⟨(t, .a t (m - i.toNat)) :: sl, (t, .ro eB8 (l.drop i.toNat)) :: (id, .dead) :: hp⟩ := by
  subst hs
  subst hl
  obtain ⟨i, rfl⟩ := Int.eq_ofNat_of_zero_le h0
  rw [Int.toNat_natCast]
  have hti : t ≠ id := by rintro rfl; rw [hf] at hc; cases hc
  refine ⟨⟨rfl, fun F s a w hs hpre => ?_⟩, ⟨?_, by simpa using hc, by simpa using hf⟩, rfl⟩
  · obtain ⟨β, hs⟩ := hs
    obtain ⟨p1, p2, p3⟩ := hpre
    have hn := p3 t (by simp)
    have hci := p2 (id, .mt eB8 l) (by simp)
    have q : ∀ p ∈ insOf x (.e id 1 0 0) ++ insOf y (.v (.int kd (i : Int))), a.tmps[p.1]? = some (p.2.den β) := fun p hp => hs.2.2.1 _ _ (p1 p hp)
    have ex := eval_of (evC_of hx) (fun p hp' => q p (List.mem_append_left _ hp'))
    have ey := eval_of (evC_of hy) (fun p hp' => q p (List.mem_append_right _ hp'))
    have hok := hs.2.2.2.1.1 _ _ hci
    have hlne : l ≠ [] := by rintro rfl; simp at hi; omega
    obtain ⟨⟨k1, k2⟩, k3⟩ := hok.1 hlne
    let b : BI := ⟨false, (β id).B, (β id).O + i, l.length - i, none, []⟩
    have hrun : (execOp a.eval ⟨some t, .slice T x (some y) none none, ty, pos, af, g⟩).run P w = .ok (.value ((SV.a t (l.length - i)).den (upd β t b))) w := by
      have hne : ¬ l.length = i := by omega
      simp only [execOp, ex, SV.den, Instr.sliceAt, Sem.run_bind, run_underlying hT.h, Result.andThen_ok, Instr.sureAddr, Sem.run_pure, Instr.sliceBounds, Option.map_some, Option.map_none, ey, run_sliceBound _ (show i ≤ l.length by omega), run_sizeOf' hT.hn, upd_same]
      simp [b, BI.dn, hne, add_lit]
    refine Oper.wp_ok hrun ?_
    have one : ∀ {k d}, getL [(t, Chunk.ro eB8 (l.drop i)), (id, .dead)] k = some d → (k = t ∧ d = .ro eB8 (l.drop i)) ∨ (k = id ∧ d = .dead) := by
      intro k d hk
      rw [getL_cons] at hk
      split at hk
      · rename_i e1
        injection hk with hk
        exact .inl ⟨e1.symm, hk.symm⟩
      · rw [getL_cons] at hk
        split at hk
        · rename_i e1
          injection hk with hk
          exact .inr ⟨e1.symm, hk.symm⟩
        · simp [getL] at hk
    have some_id : (getL [(t, Chunk.ro eB8 (l.drop i)), (id, .dead)] id).isSome = true := by
      rw [getL_cons, if_neg hti, getL_cons, if_pos rfl]
      rfl
    have hmv := hs.move (β' := upd β t b) (w' := w) (T := fun _ => False) [(t, .ro eB8 (l.drop i)), (id, .dead)] (upd_old hn) (Fr.refl _ w) (fun _ h => h.elim)
      (fun k d hk => by
        rcases one hk with ⟨rfl, rfl⟩ | ⟨rfl, rfl⟩
        · have : RdOk (upd β k b) k w eB8 (l.drop i) := by
            intro _
            rw [upd_same]
            refine ⟨⟨rfl, by simp [b]⟩, fun j u hu => ?_⟩
            rw [flat_drop, eB8_size, Nat.mul_one, List.getElem?_drop] at hu
            simpa [b, Nat.add_assoc] using k3 (i + j) u hu
          exact this
        · trivial)
      (fun k d g hk hg => by
        rcases one hk with ⟨rfl, rfl⟩ | ⟨rfl, rfl⟩ <;> exact hg.elim)
      (fun k d g hk hg => by
        rcases one hk with ⟨rfl, rfl⟩ | ⟨rfl, rfl⟩
        · obtain ⟨_, hg⟩ := hg
          rw [upd_same] at hg
          exact .inr ⟨id, _, hci, ⟨hlne, hg⟩, .inl some_id⟩
        · exact hg.elim)
      (fun k k' d d' _ hk _ g hg _ => by
        rcases one hk with ⟨rfl, rfl⟩ | ⟨rfl, rfl⟩ <;> exact hg.elim)
      (fun k d hk q hq => by
        rcases one hk with ⟨rfl, rfl⟩ | ⟨rfl, rfl⟩ <;> simp [Chunk.ids] at hq)
    have hput := hmv.put (t := t) (x := .a t (l.length - i)) (by simp [Nat.blt] at ht; omega) (fun k hk => by
      have : k = t := by simpa [SV.ids] using hk
      subst this
      simp [getL_cons])
    exact ⟨_, hput⟩
  · intro p hp'
    rcases List.mem_append.1 hp' with h1 | h1
    · exact insOf_pre (s := ⟨sl, hp⟩) hx p h1
    · exact insOf_pre (s := ⟨sl, hp⟩) hy p h1
end
end Go.Proofs.Ytiboffhdabeiiaa
