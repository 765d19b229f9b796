/-
  The symbolic state: sets of numbers (map[int]struct{}); rows of functions. Plain lemmas over any program.
-/
import Derived.Test.YtiboffhdabeiiaaSxY
import Derived.Maps.OwnSet
import Derived.Carry
namespace Go.Proofs.Ytiboffhdabeiiaa
open Go Go.RowKit
open Go.Maps (Keyed IsMap Tidy)

/-- A set of numbers in memory. -/
def setO (P : Program) (k : TypeId) (n : Nat) (D : DataW Unit) : ObjT where
  ok b w := w.ownsMap P k unitElem b.B n D
  foot b g := g = b.B
  keep b w w' h hg := by
    obtain ⟨es, clock, hb, r⟩ := h
    exact ⟨es, clock, by rw [hg _ rfl]; exact hb, r⟩
  lt b w g h hg := by
    rw [hg]
    exact h.lt
  nd b w g h hg ds := by
    obtain ⟨es, clock, hb, r⟩ := h
    rw [hg, hb]
    simp
/-- The set of some numbers. -/
def setD : List Int → DataW Unit
  | [] => .map []
  | a :: l => (setD l).put (.int .i64 a) (.agg [])
section
variable {P : Program} {nt : Nat} {sl : List (Nat × SV)} {hp : List (Nat × Chunk)} {t : Nat}
variable {ty : TypeId} {pos : String} {af : Array Edge} {g : Option (Nat × Bool)}
theorem OpR.makeMap {T k e : TypeId} (_hT : P.underlying T = some (.map k e)) (ht : Nat.blt t nt = true) (hf : getL hp t = none) :
    OpR P nt ⟨sl, hp⟩ ⟨some t, .makeMap T none, ty, pos, af, g⟩ ⟨[], [], [t], some t, .mp t, [(t, .obj (setO P k 0 (setD [])))]⟩ ⟨(t, .mp t) :: sl, (t, .obj (setO P k 0 (setD []))) :: hp⟩ := by
  refine OpR.make rfl ht hf (by simp) (fun i hi => by simpa [SV.ids] using hi) fun F β s a w hs _ hn _ => ⟨⟨false, w.heap.size, 0, 0, none, []⟩, w.alloc (.map #[] 0), ?_, fr_alloc _ _, ⟨?_, fun g hg => ?_⟩, fun g hg => ?_, by simp [Chunk.ids]⟩
  · simp [execOp, run_makeMap, SV.den, upd_same]
  · show (w.alloc (.map #[] 0)).ownsMap P k unitElem (upd β t _ t).B 0 _
    rw [upd_same]
    exact World.ownsMap_made w P k unitElem
  · rw [show g = (upd β t _ t).B from hg, upd_same]
    exact .inl hs.2.2.2.2.2.size
  · rw [show g = (upd β t _ t).B from hg, upd_same]
    exact Nat.le_refl _
theorem OpR.lenMap {T k e : TypeId} {x : Operand} {id n : Nat} {D : DataW Unit} (hT : P.underlying T = some (.map k e)) (hx : evS sl x = some (.mp id)) (hc : getL hp id = some (.obj (setO P k n D))) (ht : Nat.blt t nt = true) :
    OpR P nt ⟨sl, hp⟩ ⟨some t, .call { callee := .builtin .len, args := #[x], argTypes := #[T] }, ty, pos, af, g⟩ ⟨insOf x (.mp id), [(id, .obj (setO P k n D))], [], some t, .v (.int .i64 (Maps.size D)), []⟩ ⟨(t, .v (.int .i64 (Maps.size D))) :: sl, hp⟩ := by
  refine OpR.look rfl ht hx hc (fun i hi => by simp [SV.ids] at hi) fun F β a w h1 h3 => ?_
  have h4 : w.ownsMap P k unitElem (β id).B n D := h3.1
  have h5 := h4.len hT ty
  simp [execOp, resolve, invoke, builtin, h1, SV.den, h5]
theorem OpR.mapUpdate {T k e : TypeId} {x y z : Operand} {id n : Nat} {v : Int} {D : DataW Unit} (hT : P.underlying T = some (.map k e)) (hk : P.underlying k = some (.int .i64)) (hx : evS sl x = some (.mp id)) (hy : evS sl y = some (.v (.int .i64 v))) (hz : evS sl z = some (.agg [])) (hc : getL hp id = some (.obj (setO P k n D))) (hv : -9223372036854775808 ≤ v ∧ v ≤ 9223372036854775807) (hn : n < maxLen) :
    OpR P nt ⟨sl, hp⟩ ⟨none, .mapUpdate T x y z, ty, pos, af, g⟩ ⟨insOf x (.mp id) ++ insOf y (.v (.int .i64 v)) ++ insOf z (.agg []), [(id, .obj (setO P k n D))], [], none, .v undef, [(id, .obj (setO P k (n + 1) (D.put (.int .i64 v) (.agg []))))]⟩ ⟨sl, (id, .obj (setO P k (n + 1) (D.put (.int .i64 v) (.agg [])))) :: hp⟩ := by
  refine ⟨⟨rfl, fun F s a w hs hpre => ?_⟩, ⟨?_, by simpa using hc, by simp⟩, rfl⟩
  · obtain ⟨β, hs⟩ := hs
    obtain ⟨p1, p2, _⟩ := hpre
    have hci := p2 (id, .obj (setO P k n D)) (by simp)
    have q : ∀ p ∈ insOf x (.mp id) ++ insOf y (.v (.int .i64 v)) ++ insOf z (.agg []), a.tmps[p.1]? = some (p.2.den β) := fun p hp => hs.2.2.1 _ _ (p1 p hp)
    have ex := eval_of (evC_of hx) (fun p hp' => q p (List.mem_append_left _ (List.mem_append_left _ hp')))
    have ey := eval_of (evC_of hy) (fun p hp' => q p (List.mem_append_left _ (List.mem_append_right _ hp')))
    have ez := eval_of (evC_of hz) (fun p hp' => q p (List.mem_append_right _ hp'))
    have h3 := hs.2.2.2.1.1 _ _ hci
    have h4 : w.ownsMap P k unitElem (β id).B n D := h3.1
    have hkey : keyOf P k (.int .i64 v) = some (.int .i64 v) := Maps.keyOf_int_mk hk (by simp [Lit.wf, IntKind.min, IntKind.max, IntKind.signed, IntKind.bits]; omega)
    obtain ⟨w', hrun, hown, hturn⟩ := h4.store (Maps.int_keyed hk) hT hn hkey (val := .agg #[]) unitElem_mk
    have hgr := hturn.grown
    refine Oper.wp_skip (w' := w') ?_ ⟨β, hs.rewrite id _ _ hci (Fr.of_grown hgr (fun k _ e => by injection e with e; exact e.symm)) ⟨hown, fun g hg => h3.2 g hg⟩ (fun g hg => hg) (fun g hg => hg) (fun j hj => by simp [Chunk.ids] at hj)⟩
    simp only [SV.den, denL] at ex ey ez
    simp [execOp, ex, ey, ez, hrun]
  · intro p hp'
    rcases List.mem_append.1 hp' with h1 | h1
    · rcases List.mem_append.1 h1 with h1 | h1
      · exact insOf_pre (s := ⟨sl, hp⟩) hx p h1
      · exact insOf_pre (s := ⟨sl, hp⟩) hy p h1
    · exact insOf_pre (s := ⟨sl, hp⟩) hz p h1

/-! ### Rows of functions -/
theorem idsL_repl (k : Nat) : idsL (List.replicate k (SV.v Value.nilFunc)) = [] := by
  induction k with
  | zero => rfl
  | succ k ih => rw [List.replicate_succ, idsL, ih]; rfl
theorem OpR.buildSliceF {T e : TypeId} {len : Nat} {parts : List (Nat × Operand)} {r : List (Nat × SV)} {cs : List SV} [hT : TySlice P T e 1] (hz : ((P.info? e).bind (·.zero)) = some Value.nilFunc) (hr : evParts sl parts = some r) (hc : fillS (fun i => some (i * 1, 1)) (List.replicate len (.v .nilFunc)) r = some cs) (hlen : Nat.ble len 1000 = true) (h0 : Nat.blt 0 len = true) (ht : Nat.blt t nt = true) (hf : getL hp t = none) :
    OpR P nt ⟨sl, hp⟩ ⟨some t, .buildSlice T len parts.toArray, ty, pos, af, g⟩ ⟨insParts parts r, [], [t], some t, .a t len, [(t, .cells e cs)]⟩ ⟨(t, .a t len) :: sl, (t, .cells e cs) :: hp⟩ := by
  have hlen' := Nat.le_of_ble_eq_true hlen
  have h0' : 0 < len := Nat.le_of_ble_eq_true h0
  refine OpR.make rfl ht hf (parts_pre (s := ⟨sl, hp⟩) hr) (fun i hi => by simpa [SV.ids] using hi) fun F β s a w hs hp1 hn hpre => ?_
  have h3 := parts_eval hr hpre
  have h4 := fillS_spec β _ _ _ _ hc
  have h6 : (parts.toArray.map fun x => (x.1, a.eval x.2)).toList = r.map fun p => (p.1, p.2.den β) := by simp [h3]
  have hids : ∀ j ∈ idsL cs, (getL s.hp j).isSome = true := fun j hj => by
    rcases fillS_ids _ _ _ _ hc j hj with h1 | ⟨p, hp, h1⟩
    · have : idsL (List.replicate len (SV.v .nilFunc)) = [] := idsL_repl len
      rw [this] at h1
      simp at h1
    · exact parts_ids hs.2.2.2.2.1 hr hp1 p hp j h1
  have hd0 : denL β (List.replicate len (SV.v .nilFunc)) = List.replicate len Value.nilFunc := by rw [denL_eq, List.map_replicate]; rfl
  rw [hd0] at h4
  obtain ⟨i, hi, hzz⟩ : ∃ i, P.info? e = some i ∧ i.zero = some .nilFunc := by
    cases hinf : P.info? e with
    | none => rw [hinf] at hz; cases hz
    | some i => rw [hinf] at hz; exact ⟨i, rfl, hz⟩
  have hrun : (execOp a.eval ⟨some t, .buildSlice T len parts.toArray, ty, pos, af, g⟩).run P w = .ok (.value (.slice (some ⟨w.heap.size, 0, none⟩) len len)) (w.alloc (.cells (denL β cs).toArray e)) := by
    have hif : ¬ len * 1 > 2 ^ 24 := by omega
    have h00 : ¬ len * 1 = 0 := by omega
    have h7 : ((Array.range (len * 1)).map ((Value.nilFunc).cells[· % (Value.nilFunc).cells.size]!)) = (List.replicate len Value.nilFunc).toArray := by
      apply Array.ext'
      apply List.ext_getElem?
      intro j
      by_cases hj : j < len
      · simp [hj, Value.cells, Nat.mod_one]
      · rw [List.getElem?_eq_none (by simp; omega), List.getElem?_eq_none (by simp; omega)]
    simp only [execOp, Instr.buildSlice, Sem.run_bind, run_underlying hT.h, Result.andThen_ok, run_sizeOf' hT.hn, if_neg hif, if_neg h00, Sem.run_pure, run_zero' hi hzz, h6, h7, h4, newRow]
    rfl
  refine ⟨⟨false, w.heap.size, 0, len, none, []⟩, w.alloc (.cells (denL β cs).toArray e), ?_, fr_alloc _ _, ⟨by rw [upd_same], by rw [upd_same], ?_, ?_⟩, fun q hq => newCells_bl hq, hids⟩
  · rw [hrun]
    simp [SV.den, upd_same, BI.dn]
  · rw [upd_same, upd_denL hn hids]
    exact heap_alloc_new w _
  · rw [upd_same]
    exact .inl hs.2.2.2.2.2.size
theorem OpR.indexAddrC {T : TypeId} {x y : Operand} {id n k : Nat} {e size : Nat} {kd : IntKind} {tt : TypeId} {cs : List SV} [hT : TySlice P T e size] (hx : evS sl x = some (.a id n)) (hy : evS sl y = some (.v (.int kd ((k : Nat) : Int)))) (hc : getL hp id = some (.cells tt cs)) (hk : k < n) (ht : Nat.blt t nt = true) :
    OpR P nt ⟨sl, hp⟩ ⟨some t, .indexAddr T x y, ty, pos, af, g⟩ ⟨insOf x (.a id n) ++ insOf y (.v (.int kd ((k : Nat) : Int))), [(id, .cells tt cs)], [], some t, .e id size k 0, []⟩ ⟨(t, .e id size k 0) :: sl, hp⟩ := by
  refine OpR.look2 rfl ht hx hy hc (fun i hi => .inl hi) fun F β a w h1 h2 h3 => ?_
  have h4 := h3.1
  simp [execOp, h1, h2, SV.den, Instr.indexAt, asIntOf, run_underlying hT.h, BI.dn, h4, hk, run_sizeOf' hT.hn, add_lit]
theorem OpR.loadEC {T : TypeId} {x : Operand} {id size k j n : Nat} {tt : TypeId} {cs : List SV} {X : SV} [hT : TyShape P T false n] (hx : evS sl x = some (.e id size k j)) (hc : getL hp id = some (.cells tt cs)) (hu : cs[k * size + j]? = some X) (ht : Nat.blt t nt = true) :
    OpR P nt ⟨sl, hp⟩ ⟨some t, .load T x, ty, pos, af, g⟩ ⟨insOf x (.e id size k j), [(id, .cells tt cs)], [], some t, X, []⟩ ⟨(t, X) :: sl, hp⟩ := by
  refine OpR.look rfl ht hx hc (fun i hi => .inr (mem_idsL.2 ⟨X, List.mem_of_getElem? hu, hi⟩)) fun F β a w h1 h3 => ?_
  have h6 := cells_at h3 hu
  have hO : (β id).O = 0 := h3.2.1
  simp [execOp, h1, SV.den, Instr.loadAt, Instr.sureAddr, loadVar, run_isAgg' hT.h, hO, h6]
end
end Go.Proofs.Ytiboffhdabeiiaa
