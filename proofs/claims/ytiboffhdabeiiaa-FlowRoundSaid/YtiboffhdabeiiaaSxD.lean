/-
  The symbolic state: the operations on memory. Plain lemmas over any program.
-/
import Derived.Test.YtiboffhdabeiiaaSxC
import Derived.Laws.IdiomCopy
import Derived.Laws.OwnMore
import Derived.Maps.AppendAt
namespace Go.Proofs.Ytiboffhdabeiiaa
open Go Go.RowKit

/-- A row of elements, whoever's. -/
class RowC {α : outParam Type} (c : Chunk) (E : outParam (Enc α)) (l : outParam (List α)) : Prop where
  h : c = .ro E l ∨ c = .mt E l ∨ ∃ e, c = .own e E l
instance {α : Type} (E : Enc α) (l : List α) : RowC (.ro E l) E l := ⟨.inl rfl⟩
instance {α : Type} (E : Enc α) (l : List α) : RowC (.mt E l) E l := ⟨.inr (.inl rfl)⟩
instance {α : Type} (e : TypeId) (E : Enc α) (l : List α) : RowC (.own e E l) E l := ⟨.inr (.inr ⟨e, rfl⟩)⟩
/-- A row that may be written, and what it is with other elements. -/
class WRow {α : outParam Type} (c : Chunk) (E : outParam (Enc α)) (l : outParam (List α)) (mk : outParam (List α → Chunk)) : Prop where
  h : (c = .mt E l ∧ mk = .mt E) ∨ ∃ e, c = .own e E l ∧ mk = .own e E
instance {α : Type} (E : Enc α) (l : List α) : WRow (.mt E l) E l (.mt E) := ⟨.inl ⟨rfl, rfl⟩⟩
instance {α : Type} (e : TypeId) (E : Enc α) (l : List α) : WRow (.own e E l) E l (.own e E) := ⟨.inr ⟨e, rfl, rfl⟩⟩

class TyElem (P : Program) (e : TypeId) {α : outParam Type} (E : outParam (Enc α)) (bytes : outParam Nat) : Prop where
  hi : (P.info? e).map (fun i => (i.size, i.bytes)) = some (E.size, bytes)
  hz : ((P.info? e).bind (·.zero)).map (fun z => z.cells.toList) = some (E.enc E.zero)
class TyZero (P : Program) (T : TypeId) (zs : outParam (List SV)) : Prop where
  h : ∀ β, ((P.info? T).bind (·.zero)).map (fun z => z.cells) = some (denL β zs).toArray

theorem own_read {w : World} {base n cap size : Nat} {e : TypeId} {b : BI} {xs : List Value} (h : w.ownsRow base e size (.slice b.ad n cap) n xs) (hO : b.O = 0) (hn : 0 < xs.length) :
    b.nil = false ∧ ∀ (j : Nat) u, xs[j]? = some u → w.cell? ⟨b.B, b.O + j, none⟩ = some u := by
  unfold BI.ad at h
  cases hb : b.nil
  · rw [hb] at h
    refine ⟨rfl, fun j u hu => ?_⟩
    have := h.cells (g := b.B) (by simp [hO, Value.ownBlock]) j u hu
    rwa [add_lit, ← hO] at this
  · rw [hb] at h
    rcases h.2 with hn' | ⟨g, cap, cur, hv, _⟩
    · have := h.1
      rw [hn'.2] at this
      omega
    · simp at hv

theorem own_cap {w : World} {base n cap size : Nat} {e : TypeId} {ad : Option Addr} {xs : List Value} (h : w.ownsRow base e size (.slice ad n cap) n xs) : n ≤ cap := by
  rcases h.2 with ⟨_, h⟩ | ⟨g, cap', cur, hv, _, _, hnc, _⟩
  · omega
  · injection hv with _ _ hv
    omega
theorem RowC.read {F : Fm} {β : Nat → BI} {id : Nat} {w : World} {α : Type} {c : Chunk} {E : Enc α} {l : List α} (h : RowC c E l) (hc : ChOk F β id w c) : RdOk β id w E l := by
  rcases h.h with rfl | rfl | ⟨e, rfl⟩
  · exact hc
  · exact hc.1
  · intro hl
    have h1 := own_read hc.1 hc.2.1 (by rw [flat_len]; exact Nat.mul_pos (List.length_pos_iff.2 hl) E.pos)
    exact ⟨⟨h1.1, own_cap hc.1⟩, h1.2⟩

section
variable {P : Program} {nt : Nat} {o : Oper} {sl : List (Nat × SV)} {hp : List (Nat × Chunk)} {t : Nat}
variable {ty : TypeId} {pos : String} {af : Array Edge} {g : Option (Nat × Bool)}

/-- A look at memory by one operand. -/
theorem OpR.look {x : Operand} {X V : SV} {id : Nat} {c : Chunk} (hd : o.dst = some t) (ht : Nat.blt t nt = true) (hx : evS sl x = some X) (hc : getL hp id = some c) (hids : ∀ i ∈ V.ids, i ∈ X.ids ∨ i ∈ c.ids)
    (h : ∀ (F : Fm) (β : Nat → BI) (a : Act) (w : World), a.eval x = X.den β → ChOk F β id w c → (execOp a.eval o).run P w = .ok (.value (V.den β)) w) :
    OpR P nt ⟨sl, hp⟩ o ⟨insOf x X, [(id, c)], [], some t, V, []⟩ ⟨(t, V) :: sl, hp⟩ := by
  refine ⟨StepOk.quiet hd (by simp [Nat.blt] at ht; omega) ?_ ?_, ⟨insOf_pre (s := ⟨sl, hp⟩) hx, by simpa using hc, by simp⟩, rfl⟩
  · intro s hcl hp hh i hi
    rcases hids i hi with h1 | h1
    · exact ids_of hcl (evC_of hx) hp i h1
    · exact hcl.2 id c (hh (id, c) (by simp)) i h1
  · intro F β a w hp hh
    exact h F β a w (eval_of (evC_of hx) hp) (hh (id, c) (by simp))
theorem OpR.look2 {x y : Operand} {X Y V : SV} {id : Nat} {c : Chunk} (hd : o.dst = some t) (ht : Nat.blt t nt = true) (hx : evS sl x = some X) (hy : evS sl y = some Y) (hc : getL hp id = some c) (hids : ∀ i ∈ V.ids, i ∈ X.ids ∨ i ∈ c.ids)
    (h : ∀ (F : Fm) (β : Nat → BI) (a : Act) (w : World), a.eval x = X.den β → a.eval y = Y.den β → ChOk F β id w c → (execOp a.eval o).run P w = .ok (.value (V.den β)) w) :
    OpR P nt ⟨sl, hp⟩ o ⟨insOf x X ++ insOf y Y, [(id, c)], [], some t, V, []⟩ ⟨(t, V) :: sl, hp⟩ := by
  refine ⟨StepOk.quiet hd (by simp [Nat.blt] at ht; omega) ?_ ?_, ⟨?_, by simpa using hc, by simp⟩, rfl⟩
  · intro s hcl hp hh i hi
    rcases hids i hi with h1 | h1
    · exact ids_of hcl (evC_of hx) (fun p hp' => hp p (List.mem_append_left _ hp')) i h1
    · exact hcl.2 id c (hh (id, c) (by simp)) i h1
  · intro F β a w hp hh
    exact h F β a w (eval_of (evC_of hx) (fun p hp' => hp p (List.mem_append_left _ hp'))) (eval_of (evC_of hy) (fun p hp' => hp p (List.mem_append_right _ hp'))) (hh (id, c) (by simp))
  · intro p hp'
    rcases List.mem_append.1 hp' with h1 | h1
    · exact insOf_pre (s := ⟨sl, hp⟩) hx p h1
    · exact insOf_pre (s := ⟨sl, hp⟩) hy p h1

theorem OpR.indexAddr {T : TypeId} {x y : Operand} {id n k : Nat} {e size : Nat} {kd : IntKind} {α : Type} {c : Chunk} {E : Enc α} {l : List α} [hT : TySlice P T e size] (hx : evS sl x = some (.a id n)) (hy : evS sl y = some (.v (.int kd ((k : Nat) : Int)))) (hc : getL hp id = some c) [hr : RowC c E l]
    (hk : k < n) (hl : k < l.length) (ht : Nat.blt t nt = true) :
    OpR P nt ⟨sl, hp⟩ ⟨some t, .indexAddr T x y, ty, pos, af, g⟩ ⟨insOf x (.a id n) ++ insOf y (.v (.int kd ((k : Nat) : Int))), [(id, c)], [], some t, .e id size k 0, []⟩ ⟨(t, .e id size k 0) :: sl, hp⟩ := by
  refine OpR.look2 rfl ht hx hy hc (fun i hi => .inl hi) fun F β a w h1 h2 h3 => ?_
  have h4 := (hr.read h3 (by intro e; rw [e] at hl; simp at hl)).1.1
  simp [execOp, h1, h2, SV.den, Instr.indexAt, asIntOf, run_underlying hT.h, BI.dn, h4, hk, run_sizeOf' hT.hn, add_lit]
theorem OpR.indexAddrI {T : TypeId} {x y : Operand} {id n : Nat} {i : Int} {e size : Nat} {kd : IntKind} {α : Type} {c : Chunk} {E : Enc α} {l : List α} [hT : TySlice P T e size] (hx : evS sl x = some (.a id n)) (hy : evS sl y = some (.v (.int kd i))) (hc : getL hp id = some c) [hr : RowC c E l]
    (h0 : 0 ≤ i) (hk : i.toNat < n) (hl : i.toNat < l.length) (ht : Nat.blt t nt = true) :
    OpR P nt ⟨sl, hp⟩ ⟨some t, .indexAddr T x y, ty, pos, af, g⟩ ⟨insOf x (.a id n) ++ insOf y (.v (.int kd i)), [(id, c)], [], some t, .e id size i.toNat 0, []⟩ ⟨(t, .e id size i.toNat 0) :: sl, hp⟩ := by
  obtain ⟨k, rfl⟩ : ∃ k : Nat, i = (k : Int) := ⟨i.toNat, by omega⟩
  exact OpR.indexAddr hx hy hc (by simpa using hk) (by simpa using hl) ht

theorem OpR.loadE {T : TypeId} {x : Operand} {id size k j n : Nat} {α : Type} {c : Chunk} {E : Enc α} {l : List α} {y : α} {u : Value} [hT : TyShape P T false n] (hx : evS sl x = some (.e id size k j)) (hc : getL hp id = some c) [hr : RowC c E l]
    (hs : E.size = size) (hk : l[k]? = some y) (hu : (E.enc y)[j]? = some u) (ht : Nat.blt t nt = true) :
    OpR P nt ⟨sl, hp⟩ ⟨some t, .load T x, ty, pos, af, g⟩ ⟨insOf x (.e id size k j), [(id, c)], [], some t, .v u, []⟩ ⟨(t, .v u) :: sl, hp⟩ := by
  refine OpR.look rfl ht hx hc (fun i hi => by simp [SV.ids] at hi) fun F β a w h1 h3 => ?_
  subst hs
  obtain ⟨_, h5⟩ := hr.read h3 (by rintro rfl; simp at hk)
  have h6 := h5 _ u (flat_at E hk hu)
  simp [execOp, h1, SV.den, Instr.loadAt, Instr.sureAddr, loadVar, run_isAgg' hT.h, h6]
theorem denL_vals (β : Nat → BI) (l : List Value) : denL β (l.map SV.v) = l := by
  induction l with
  | nil => rfl
  | cons x l ih => simp [denL, SV.den, ih]
theorem idsL_vals (l : List Value) : idsL (l.map SV.v) = [] := by
  induction l with
  | nil => rfl
  | cons x l ih => simp [idsL, SV.ids, ih]
theorem OpR.loadEA {T : TypeId} {x : Operand} {id size k j n : Nat} {α : Type} {c : Chunk} {E : Enc α} {l : List α} {y : α} [hT : TyShape P T true n] (hx : evS sl x = some (.e id size k j)) (hc : getL hp id = some c) [hr : RowC c E l]
    (hs : E.size = size) (hk : l[k]? = some y) (hu : Nat.ble (j + n) size = true) (ht : Nat.blt t nt = true) :
    OpR P nt ⟨sl, hp⟩ ⟨some t, .load T x, ty, pos, af, g⟩ ⟨insOf x (.e id size k j), [(id, c)], [], some t, .agg ((((E.enc y).drop j).take n).map SV.v), []⟩ ⟨(t, .agg ((((E.enc y).drop j).take n).map SV.v)) :: sl, hp⟩ := by
  refine OpR.look rfl ht hx hc (fun i hi => by simp only [SV.ids, idsL_vals] at hi; simp at hi) fun F β a w h1 h3 => ?_
  subst hs
  obtain ⟨_, h5⟩ := hr.read h3 (by rintro rfl; simp at hk)
  have hlen : (((E.enc y).drop j).take n).length = n := by simp [E.len] at hu ⊢; omega
  have h7 := run_loadCells_list (P := P) (w := w) ⟨(β id).B, (β id).O + (k * E.size + j), none⟩ (((E.enc y).drop j).take n) (fun i v hv => by
    have hil : i < n := by have := (List.getElem?_eq_some_iff.1 hv).1; omega
    rw [List.getElem?_take, if_pos hil, List.getElem?_drop] at hv
    have := h5 _ v (flat_at E hk hv)
    rw [add_lit, ← this]
    congr 2
    omega)
  rw [hlen] at h7
  simp only [execOp, h1, SV.den, Instr.loadAt, Instr.sureAddr, loadVar, Sem.run_bind, run_isAgg' hT.h, Result.andThen_ok, Sem.run_pure, if_true, run_sizeOf' hT.hn, h7, denL_vals]
theorem cells_at {F : Fm} {β : Nat → BI} {id : Nat} {w : World} {t : TypeId} {cs : List SV} (h : ChOk F β id w (.cells t cs)) {i : Nat} {X : SV} (hi : cs[i]? = some X) : w.cell? ⟨(β id).B, i, none⟩ = some (X.den β) := by
  rw [cell_of_row w _ i _ t (0, 0) h.2.2.1, denL_eq]
  simp [hi]
theorem OpR.loadP {T : TypeId} {x : Operand} {id off n : Nat} {tt : TypeId} {cs : List SV} {X : SV} [hT : TyShape P T false n] (hx : evS sl x = some (.p id off)) (hc : getL hp id = some (.cells tt cs)) (hu : cs[off]? = some X) (ht : Nat.blt t nt = true) :
    OpR P nt ⟨sl, hp⟩ ⟨some t, .load T x, ty, pos, af, g⟩ ⟨insOf x (.p id off), [(id, .cells tt cs)], [], some t, X, []⟩ ⟨(t, X) :: sl, hp⟩ := by
  refine OpR.look rfl ht hx hc (fun i hi => .inr (mem_idsL.2 ⟨X, List.mem_of_getElem? hu, hi⟩)) fun F β a w h1 h3 => ?_
  have h6 := cells_at h3 hu
  simp [execOp, h1, SV.den, Instr.loadAt, Instr.sureAddr, loadVar, run_isAgg' hT.h, h6]
theorem OpR.loadPA {T : TypeId} {x : Operand} {id off n : Nat} {tt : TypeId} {cs : List SV} [hT : TyShape P T true n] (hx : evS sl x = some (.p id off)) (hc : getL hp id = some (.cells tt cs)) (hu : Nat.ble (off + n) cs.length = true) (ht : Nat.blt t nt = true) :
    OpR P nt ⟨sl, hp⟩ ⟨some t, .load T x, ty, pos, af, g⟩ ⟨insOf x (.p id off), [(id, .cells tt cs)], [], some t, .agg ((cs.drop off).take n), []⟩ ⟨(t, .agg ((cs.drop off).take n)) :: sl, hp⟩ := by
  refine OpR.look rfl ht hx hc (fun i hi => .inr (by simp only [SV.ids, Chunk.ids] at hi ⊢; exact idsL_sub hi)) fun F β a w h1 h3 => ?_
  have hlen : (denL β ((cs.drop off).take n)).length = n := by rw [denL_len]; simp at hu ⊢; omega
  have h7 := run_loadCells_list (P := P) (w := w) ⟨(β id).B, off, none⟩ (denL β ((cs.drop off).take n)) (fun i v hv => by
    have hil : i < n := by have := (List.getElem?_eq_some_iff.1 hv).1; omega
    rw [denL_eq, List.getElem?_map, List.getElem?_take, if_pos hil, List.getElem?_drop] at hv
    cases hx : cs[off + i]? with
    | none => rw [hx] at hv; cases hv
    | some X =>
      rw [hx] at hv
      injection hv with hv
      rw [add_lit, ← hv]
      exact cells_at h3 hx)
  rw [hlen] at h7
  simp only [execOp, h1, SV.den, Instr.loadAt, Instr.sureAddr, loadVar, Sem.run_bind, run_isAgg' hT.h, Result.andThen_ok, Sem.run_pure, if_true, run_sizeOf' hT.hn, h7]

/-! ### New names -/
def noBI : BI := ⟨true, 0, 0, 0, none, []⟩
theorem fr_alloc (w : World) (o : Obj) : Fr (fun _ => False) w (w.alloc o) := (Fr.refl _ _).alloc _

/-- An operation that makes one block, and gives its address. -/
theorem OpR.make {ins : List (Nat × SV)} {V : SV} {c : Chunk} (hd : o.dst = some t) (ht : Nat.blt t nt = true) (hf : getL hp t = none) (hpre : ∀ p ∈ ins, getL sl p.1 = some p.2)
    (hV : ∀ i ∈ V.ids, i = t)
    (h : ∀ (F : Fm) (β : Nat → BI) (s : St) (a : Act) (w : World), SatB F nt β s a w → (∀ p ∈ ins, getL s.sl p.1 = some p.2) → getL s.hp t = none → (∀ p ∈ ins, a.tmps[p.1]? = some (p.2.den β)) →
      ∃ b w', (execOp a.eval o).run P w = .ok (.value (V.den (upd β t b))) w' ∧ Fr (fun _ => False) w w' ∧ ChOk F (upd β t b) t w' c ∧ (∀ g, Bl (upd β t b) t c g → w.heap.size ≤ g) ∧ ∀ j ∈ c.ids, (getL s.hp j).isSome = true) :
    OpR P nt ⟨sl, hp⟩ o ⟨ins, [], [t], some t, V, [(t, c)]⟩ ⟨(t, V) :: sl, (t, c) :: hp⟩ := by
  refine ⟨⟨hd.symm, fun F s a w hs hp => ?_⟩, ⟨hpre, by simp, by simpa using hf⟩, rfl⟩
  obtain ⟨β, hs⟩ := hs
  obtain ⟨p1, _, p3⟩ := hp
  have hn := p3 t (by simp)
  obtain ⟨b, w', hrun, hfr, hok, hbl, hcl⟩ := h F β s a w hs p1 hn (fun p hp => hs.2.2.1 _ _ (p1 p hp))
  refine Oper.wp_ok hrun ?_
  rw [hd]
  have h1 := hs.new t c b hn hfr hok hbl hcl
  have h2 := h1.put (t := t) (x := V) (by simp [Nat.blt] at ht; omega) (fun i hi => by rw [hV i hi]; simp [getL_cons])
  exact ⟨_, h2⟩

theorem newCells_ok {F : Fm} {β : Nat → BI} {s : St} {a : Act} {w : World} {T : TypeId} {cs : List SV} (hs : SatB F nt β s a w) (hn : getL s.hp t = none) (hcl : ∀ j ∈ idsL cs, (getL s.hp j).isSome = true) :
    ChOk F (upd β t ⟨false, w.heap.size, 0, 0, none, []⟩) t (w.alloc (.cells (denL β cs).toArray T)) (.cells T cs) := by
  refine ⟨by rw [upd_same], by rw [upd_same], ?_, ?_⟩
  · rw [upd_same, upd_denL hn hcl]
    exact heap_alloc_new w _
  · rw [upd_same]
    exact .inl hs.2.2.2.2.2.size
theorem newCells_bl {β : Nat → BI} {w : World} {T : TypeId} {cs : List SV} {cap : Nat} {g : Nat} (h : Bl (upd β t ⟨false, w.heap.size, 0, cap, none, []⟩) t (.cells T cs) g) : w.heap.size ≤ g := by
  have : g = w.heap.size := by simpa [Bl, Wr, upd_same] using h
  omega

theorem OpR.alloc {T : TypeId} {zs : List SV} [hz : TyZero P T zs] (ht : Nat.blt t nt = true) (hf : getL hp t = none) (hi : idsL zs = []) :
    OpR P nt ⟨sl, hp⟩ ⟨some t, .alloc T, ty, pos, af, g⟩ ⟨[], [], [t], some t, .p t 0, [(t, .cells T zs)]⟩ ⟨(t, .p t 0) :: sl, (t, .cells T zs) :: hp⟩ := by
  refine OpR.make rfl ht hf (by simp) (fun i hi => by simpa [SV.ids] using hi) fun F β s a w hs _ hn _ => ⟨⟨false, w.heap.size, 0, 0, none, []⟩, w.alloc (.cells (denL β zs).toArray T), ?_, fr_alloc _ _, newCells_ok hs hn (by rw [hi]; simp), fun g hg => newCells_bl hg, by simp [Chunk.ids, hi]⟩
  have h2 := hz.h β
  cases hinf : P.info? T with
  | none => rw [hinf] at h2; cases h2
  | some i =>
    rw [hinf] at h2
    cases hzz : i.zero with
    | none => simp [hzz] at h2
    | some z =>
      simp [hzz] at h2
      simp [execOp, Instr.alloc, zeroValue, typeInfo, hinf, hzz, newVar, newRow, h2, SV.den, upd_same]
def SV.one : SV → Bool
  | .v (.agg _) => false
  | .v (.tuple _) => false
  | .agg _ => false
  | .tup _ => false
  | _ => true
theorem SV.one_cells {X : SV} (h : X.one = true) (β : Nat → BI) : (X.den β).cells = (denL β [X]).toArray := by
  cases X with
  | v x => cases x <;> first | rfl | (simp [SV.one] at h)
  | p _ _ => rfl
  | e _ _ _ _ => rfl
  | a _ _ => rfl
  | fn _ _ => rfl
  | mp _ => rfl
  | ip _ _ _ => rfl
  | agg _ => simp [SV.one] at h
  | tup _ => simp [SV.one] at h
theorem SV.one_cell' {X : SV} (h : X.one = true) (β : Nat → BI) : (X.den β).oneCell' = true := by
  cases X with
  | v x => cases x <;> first | rfl | (simp [SV.one] at h)
  | p _ _ => rfl
  | e _ _ _ _ => rfl
  | a _ _ => rfl
  | fn _ _ => rfl
  | mp _ => rfl
  | ip _ _ _ => rfl
  | agg _ => simp [SV.one] at h
  | tup _ => simp [SV.one] at h
def SV.cellsS : SV → List SV
  | .agg l => l
  | X => [X]
def SV.flatOk : SV → Bool
  | .agg l => l.all SV.one
  | X => X.one
theorem SV.cells_den {X : SV} (h : X.flatOk = true) (β : Nat → BI) : (X.den β).cells = (denL β X.cellsS).toArray := by
  cases X with
  | agg l => rfl
  | v x => exact SV.one_cells (X := .v x) h β
  | p _ _ => rfl
  | e _ _ _ _ => rfl
  | a _ _ => rfl
  | fn _ _ => rfl
  | mp _ => rfl
  | ip _ _ _ => rfl
  | tup _ => simp [SV.flatOk, SV.one] at h
theorem SV.cells_ids {X : SV} (h : X.flatOk = true) : idsL X.cellsS = X.ids := by
  cases X <;> first | rfl | simp [SV.cellsS, idsL] 
theorem SV.cells_one {X : SV} (h : X.flatOk = true) (β : Nat → BI) : ∀ u ∈ denL β X.cellsS, u.oneCell' = true := by
  intro u hu
  rw [denL_eq] at hu
  obtain ⟨y, hy, rfl⟩ := List.mem_map.1 hu
  refine SV.one_cell' ?_ β
  cases X with
  | agg l => exact (List.all_eq_true.1 h) y hy
  | _ =>
    simp [SV.cellsS] at hy
    subst hy
    exact h
theorem OpR.box {T : TypeId} {x : Operand} {X : SV} (hx : evS sl x = some X) (hX : X.flatOk = true) (ht : Nat.blt t nt = true) (hf : getL hp t = none) :
    OpR P nt ⟨sl, hp⟩ ⟨some t, .box T x, ty, pos, af, g⟩ ⟨insOf x X, [], [t], some t, .p t 0, [(t, .cells T X.cellsS)]⟩ ⟨(t, .p t 0) :: sl, (t, .cells T X.cellsS) :: hp⟩ := by
  refine OpR.make rfl ht hf (insOf_pre (s := ⟨sl, hp⟩) hx) (fun i hi => by simpa [SV.ids] using hi) fun F β s a w hs hp1 hn hp => ?_
  have hcl : ∀ j ∈ idsL X.cellsS, (getL s.hp j).isSome = true := fun j hj => by
    rw [SV.cells_ids hX] at hj
    exact ids_of hs.2.2.2.2.1 (evC_of hx) hp1 j hj
  refine ⟨⟨false, w.heap.size, 0, 0, none, []⟩, w.alloc (.cells (denL β X.cellsS).toArray T), ?_, fr_alloc _ _, newCells_ok hs hn hcl, fun g hg => newCells_bl hg, hcl⟩
  simp [execOp, Instr.box, eval_of (evC_of hx) hp, newVar, newRow, SV.cells_den hX, SV.den, upd_same]
end
end Go.Proofs.Ytiboffhdabeiiaa
