/-
  The symbolic state: literals, make, append. Plain lemmas over any program.
-/
import Derived.Test.YtiboffhdabeiiaaSxE
namespace Go.Proofs.Ytiboffhdabeiiaa
open Go Go.RowKit

def structFields (P : Program) (T : TypeId) : Array Field := match P.underlying T with
  | some (.struct fs) => fs
  | _ => #[]
class TyBuild (P : Program) (T : TypeId) (places : outParam (List (Nat × Nat))) (zs : outParam (List Value)) : Prop where
  hs : (match P.underlying T with | some (.struct _) => true | _ => false) = true
  hp : ∀ w, ((structFields P T).mapM fun f => (do pure (f.offset, ← sizeOf f.type) : Sem (Nat × Nat))).run P w = .ok places.toArray w
  hz : ((P.info? T).bind (·.zero)).map (fun z => z.cells) = some zs.toArray

def fillS (place : Nat → Option (Nat × Nat)) : List SV → List (Nat × SV) → Option (List SV)
  | cs, [] => some cs
  | cs, (i, X) :: rest => match place i with
    | none => none
    | some (off, size) => bif Nat.beq X.cellsS.length size && Nat.ble (off + size) cs.length && X.flatOk then fillS place (spliceS cs off X.cellsS) rest else none
theorem fold_set (off : Nat) : ∀ (l : List Value) (n : Nat) (cur : Array Value), off + n + l.length ≤ cur.size →
    ((l.zipIdx n).foldl (fun cs (c, j) => cs.setIfInBounds (off + j) c) cur).toList = cur.toList.take (off + n) ++ (l ++ cur.toList.drop (off + n + l.length))
  | [], n, cur, _ => by simp
  | v :: l, n, cur, h => by
    simp only [List.zipIdx_cons, List.foldl_cons]
    simp at h
    rw [fold_set off l (n + 1) _ (by simp; omega), Array.toList_setIfInBounds]
    have ho : off + n < cur.toList.length := by simp; omega
    rw [show off + (n + 1) = (off + n) + 1 by omega, List.take_set, List.take_add_one, List.getElem?_eq_getElem ho, List.drop_set_of_lt (by omega)]
    simp only [Option.toList_some, List.length_cons, List.cons_append]
    rw [List.set_append_right _ _ (by simp; omega)]
    simp [Nat.add_assoc, Nat.add_comm 1, Nat.min_eq_left (show off + n ≤ cur.size by omega)]
theorem fillS_spec (β : Nat → BI) (place : Nat → Option (Nat × Nat)) : ∀ (parts : List (Nat × SV)) (zs cs : List SV), fillS place zs parts = some cs →
    Instr.fill place (denL β zs).toArray (parts.map fun p => (p.1, p.2.den β)) = some (denL β cs).toArray
  | [], zs, cs, h => by
    simp [fillS] at h
    subst h
    rfl
  | (i, X) :: rest, zs, cs, h => by
    simp only [fillS] at h
    cases hpl : place i with
    | none => rw [hpl] at h; cases h
    | some q =>
      obtain ⟨off, size⟩ := q
      rw [hpl] at h
      dsimp only at h
      cases hc : (Nat.beq X.cellsS.length size && Nat.ble (off + size) zs.length && X.flatOk)
      · rw [hc] at h; cases h
      · rw [hc] at h
        simp only [cond_true] at h
        simp only [Bool.and_eq_true] at hc
        obtain ⟨⟨h1, h2⟩, h3⟩ := hc
        have h1' := Nat.eq_of_beq_eq_true h1
        have h2' := Nat.le_of_ble_eq_true h2
        have ih := fillS_spec β place rest _ _ h
        have hcd := SV.cells_den h3 β
        have hsz : (X.den β).cells.size = size := by rw [hcd]; simp [denL_len, h1']
        simp only [List.map_cons, Instr.fill, hpl, hsz]
        rw [if_neg (by simp [denL_len]; omega)]
        rw [← ih]
        congr 1
        apply Array.ext'
        rw [hcd, Array.zipIdx_toArray]
        have := fold_set off (denL β X.cellsS) 0 (denL β zs).toArray (by simp [denL_len]; omega)
        simp only [List.foldl_toArray']
        rw [this]
        simp [denL_splice]
theorem fillS_ids (place : Nat → Option (Nat × Nat)) : ∀ (parts : List (Nat × SV)) (zs cs : List SV), fillS place zs parts = some cs → ∀ i ∈ idsL cs, i ∈ idsL zs ∨ ∃ p ∈ parts, i ∈ p.2.ids
  | [], zs, cs, h, i, hi => by
    simp [fillS] at h
    subst h
    exact .inl hi
  | (k, X) :: rest, zs, cs, h, i, hi => by
    simp only [fillS] at h
    cases hpl : place k with
    | none => rw [hpl] at h; cases h
    | some q =>
      obtain ⟨off, size⟩ := q
      rw [hpl] at h
      dsimp only at h
      cases hc : (Nat.beq X.cellsS.length size && Nat.ble (off + size) zs.length && X.flatOk)
      · rw [hc] at h; cases h
      · rw [hc] at h
        simp only [cond_true] at h
        simp only [Bool.and_eq_true] at hc
        rcases fillS_ids place rest _ _ h i hi with h1 | ⟨p, hp, h1⟩
        · rcases splice_ids h1 with h1 | h1
          · exact .inl h1
          · rw [SV.cells_ids hc.2] at h1
            exact .inr ⟨(k, X), by simp, h1⟩
        · exact .inr ⟨p, List.mem_cons_of_mem _ hp, h1⟩

def evParts (sl : List (Nat × SV)) : List (Nat × Operand) → Option (List (Nat × SV))
  | [] => some []
  | (i, x) :: l => match evS sl x, evParts sl l with
    | some X, some r => some ((i, X) :: r)
    | _, _ => none
def insParts : List (Nat × Operand) → List (Nat × SV) → List (Nat × SV)
  | (_, x) :: l, (_, X) :: r => insOf x X ++ insParts l r
  | _, _ => []
theorem parts_pre {s : St} : ∀ {l : List (Nat × Operand)} {r : List (Nat × SV)}, evParts s.sl l = some r → ∀ p ∈ insParts l r, getL s.sl p.1 = some p.2
  | [], r, h, p, hp => by simp [insParts] at hp
  | (i, x) :: l, r, h, p, hp => by
    simp only [evParts] at h
    cases hx : evS s.sl x with
    | none => simp [hx] at h
    | some X =>
      cases hr : evParts s.sl l with
      | none => simp [hx, hr] at h
      | some r' =>
        simp [hx, hr] at h
        subst h
        simp only [insParts, List.mem_append] at hp
        rcases hp with hp | hp
        · exact insOf_pre hx p hp
        · exact parts_pre hr p hp
theorem parts_eval {sl : List (Nat × SV)} {β : Nat → BI} {a : Act} : ∀ {l : List (Nat × Operand)} {r : List (Nat × SV)}, evParts sl l = some r → (∀ p ∈ insParts l r, a.tmps[p.1]? = some (p.2.den β)) →
    l.map (fun p => (p.1, a.eval p.2)) = r.map fun p => (p.1, p.2.den β)
  | [], r, h, _ => by
    simp [evParts] at h
    subst h
    rfl
  | (i, x) :: l, r, h, hp => by
    simp only [evParts] at h
    cases hx : evS sl x with
    | none => simp [hx] at h
    | some X =>
      cases hr : evParts sl l with
      | none => simp [hx, hr] at h
      | some r' =>
        simp [hx, hr] at h
        subst h
        simp only [insParts] at hp
        rw [List.map_cons, List.map_cons, parts_eval hr (fun p hp' => hp p (List.mem_append_right _ hp')), eval_of (evC_of hx) (fun p hp' => hp p (List.mem_append_left _ hp'))]
theorem parts_ids {sl : List (Nat × SV)} {s : St} (hcl : Closed s) : ∀ {l : List (Nat × Operand)} {r : List (Nat × SV)}, evParts sl l = some r → (∀ p ∈ insParts l r, getL s.sl p.1 = some p.2) → ∀ p ∈ r, ∀ i ∈ p.2.ids, (getL s.hp i).isSome = true
  | [], r, h, _, p, hp => by
    simp [evParts] at h
    subst h
    simp at hp
  | (i, x) :: l, r, h, hpre, p, hp => by
    simp only [evParts] at h
    cases hx : evS sl x with
    | none => simp [hx] at h
    | some X =>
      cases hr : evParts sl l with
      | none => simp [hx, hr] at h
      | some r' =>
        simp [hx, hr] at h
        subst h
        simp only [insParts] at hpre
        rcases List.mem_cons.1 hp with rfl | hp
        · exact ids_of hcl (evC_of hx) (fun p hp' => hpre p (List.mem_append_left _ hp'))
        · exact parts_ids hcl hr (fun p hp' => hpre p (List.mem_append_right _ hp')) p hp

theorem run_zero' {P : Program} {w : World} {T : TypeId} {i : TypeInfo} {z : Value} (hi : P.info? T = some i) (hz : i.zero = some z) : (zeroValue T).run P w = .ok z w := by simp [zeroValue, typeInfo, hi, hz]

section
variable {P : Program} {nt : Nat} {o : Oper} {sl : List (Nat × SV)} {hp : List (Nat × Chunk)} {t : Nat}
variable {ty : TypeId} {pos : String} {af : Array Edge} {g : Option (Nat × Bool)}

theorem OpR.build {T : TypeId} {parts : List (Nat × Operand)} {r : List (Nat × SV)} {places : List (Nat × Nat)} {zs : List Value} {cs : List SV} [hT : TyBuild P T places zs] (hr : evParts sl parts = some r) (hc : fillS (fun i => places[i]?) (zs.map SV.v) r = some cs) (ht : Nat.blt t nt = true) :
    OpR P nt ⟨sl, hp⟩ ⟨some t, .build T parts.toArray, ty, pos, af, g⟩ ⟨insParts parts r, [], [], some t, .agg cs, []⟩ ⟨(t, .agg cs) :: sl, hp⟩ := by
  refine ⟨StepOk.quiet rfl (by simp [Nat.blt] at ht; omega) ?_ ?_, ⟨parts_pre (s := ⟨sl, hp⟩) hr, by simp, by simp⟩, rfl⟩
  · intro s hcl hpre _ i hi
    rcases fillS_ids _ _ _ _ hc i hi with h1 | ⟨p, hp, h1⟩
    · rw [idsL_vals] at h1
      simp at h1
    · exact parts_ids hcl hr hpre p hp i h1
  · intro F β a w hpre _
    have h1 := parts_eval hr hpre
    have h2 := fillS_spec β _ _ _ _ hc
    rw [denL_vals] at h2
    have h3 := hT.hz
    cases hu : P.underlying T with
    | none => have := hT.hs; rw [hu] at this; cases this
    | some d =>
      cases d with
      | struct fs =>
        have h4 := hT.hp w
        have h5 : structFields P T = fs := by simp [structFields, hu]
        rw [h5] at h4
        cases hinf : P.info? T with
        | none => rw [hinf] at h3; cases h3
        | some i =>
          rw [hinf] at h3
          cases hzz : i.zero with
          | none => simp [hzz] at h3
          | some z =>
            simp [hzz] at h3
            have h6 : (parts.toArray.map fun x => (x.1, a.eval x.2)).toList = r.map fun p => (p.1, p.2.den β) := by simp [h1]
            simp only [execOp, Instr.build, Sem.run_bind, run_zero' hinf hzz, Result.andThen_ok, Sem.run_pure, run_underlying hu]
            rw [h4]
            simp only [Result.andThen_ok, h6, h3]
            have h7 : (fun x => places.toArray[x]?) = fun i : Nat => places[i]? := by funext i; simp
            rw [h7, h2]
            rfl
      | _ => have := hT.hs; rw [hu] at this; cases this

def decRows {α : Type} (E : Enc α) : Nat → List Value → Option (List α)
  | 0, [] => some []
  | 0, _ => none
  | n + 1, vs => match E.dec (vs.take E.size), decRows E n (vs.drop E.size) with
    | some x, some l => some (x :: l)
    | _, _ => none
theorem decRows_spec {α : Type} (E : Enc α) : ∀ (n : Nat) (vs : List Value) (l : List α), decRows E n vs = some l → flat E l = vs ∧ l.length = n
  | 0, [], l, h => by
    simp [decRows] at h
    subst h
    exact ⟨rfl, rfl⟩
  | 0, _ :: _, l, h => by simp [decRows] at h
  | n + 1, vs, l, h => by
    simp only [decRows] at h
    cases hd : E.dec (vs.take E.size) with
    | none => simp [hd] at h
    | some x =>
      cases hr : decRows E n (vs.drop E.size) with
      | none => simp [hd, hr] at h
      | some l' =>
        simp [hd, hr] at h
        subst h
        obtain ⟨h1, h2⟩ := decRows_spec E n _ _ hr
        refine ⟨?_, by simp [h2]⟩
        have : flat E (x :: l') = E.enc x ++ flat E l' := by simp [flat]
        rw [this, h1, E.decL _ _ hd, List.take_append_drop]

theorem made_flat {α : Type} (E : Enc α) (z : Array Value) (a : α) (hz : z.toList = E.enc a) (n : Nat) : ((Array.range (n * E.size)).map (z[· % z.size]!)).toList = flat E (List.replicate n a) := by
  have hsz : z.size = E.size := by rw [← E.len a, ← hz]; simp
  apply List.ext_getElem?
  intro i
  by_cases hi : i < n * E.size
  · have hk : i / E.size < n := (Nat.div_lt_iff_lt_mul E.pos).2 hi
    have hj : i % E.size < E.size := Nat.mod_lt _ E.pos
    have h1 : (List.replicate n a)[i / E.size]? = some a := by rw [List.getElem?_replicate, if_pos hk]
    have h2 : (E.enc a)[i % E.size]? = some (z[i % E.size]!) := by
      rw [← hz]
      simp [hsz, hj]
    have h3 := flat_at E h1 h2
    have h4 : i / E.size * E.size + i % E.size = i := by rw [Nat.mul_comm]; exact Nat.div_add_mod i E.size
    rw [h4] at h3
    rw [h3]
    simp [hi, hsz]
  · rw [List.getElem?_eq_none (by simp; omega), List.getElem?_eq_none (by rw [flat_len]; simp; omega)]

theorem elem_info {e : TypeId} {α : Type} {E : Enc α} {bytes : Nat} (h : TyElem P e E bytes) : ∃ i z, P.info? e = some i ∧ i.zero = some z ∧ i.size = E.size ∧ i.bytes = bytes ∧ z.cells.toList = E.enc E.zero ∧ z.cells.size = E.size := by
  have h1 := h.hi
  have h2 := h.hz
  cases hinf : P.info? e with
  | none => rw [hinf] at h1; cases h1
  | some i =>
    rw [hinf] at h1 h2
    cases hzz : i.zero with
    | none => simp [hzz] at h2
    | some z =>
      simp [hzz] at h1 h2
      exact ⟨i, z, rfl, hzz, h1.1, h1.2, h2, by have := congrArg List.length h2; rw [E.len] at this; simpa using this⟩

def ownBI (g cap : Nat) : BI := ⟨false, g, 0, cap, none, []⟩
theorem newOwn_ok {F : Fm} {β : Nat → BI} {α : Type} {e : TypeId} {E : Enc α} {l : List α} {w' : World} {g cap : Nat} (h : w'.ownsRow 0 e E.size (.slice (some ⟨g, 0, none⟩) l.length cap) l.length (flat E l)) (hm : F.mine g) :
    ChOk F (upd β t (ownBI g cap)) t w' (.own e E l) := by
  refine ⟨?_, by simp [upd_same, ownBI], fun _ => by simpa [upd_same, ownBI] using hm, by simp [upd_same, ownBI]⟩
  simp only [upd_same, ownBI, BI.ad]
  exact h
theorem newOwn_bl {β : Nat → BI} {α : Type} {e : TypeId} {E : Enc α} {l : List α} {g cap q : Nat} (h : Bl (upd β t (ownBI g cap)) t (.own e E l) q) : q = g := by
  simpa [Bl, Wr, upd_same, ownBI] using h

theorem OpR.buildSlice {T : TypeId} {len : Nat} {parts : List (Nat × Operand)} {r : List (Nat × SV)} {e sz : Nat} {α : Type} {E : Enc α} {bytes : Nat} {cs : List SV} {vs : List Value} {l : List α} [hT : TySlice P T e sz] [hE : TyElem P e E bytes]
    (hr : evParts sl parts = some r) (hc : fillS (fun i => some (i * sz, sz)) ((flat E (List.replicate len E.zero)).map SV.v) r = some cs) (hv : valsL cs = some vs) (hd : decRows E len vs = some l) (hlen : Nat.ble len 1000 = true) (hsz : Nat.ble sz 1000 = true) (hsE : Nat.beq E.size sz = true) (ht : Nat.blt t nt = true) (hf : getL hp t = none) :
    OpR P nt ⟨sl, hp⟩ ⟨some t, .buildSlice T len parts.toArray, ty, pos, af, g⟩ ⟨insParts parts r, [], [t], some t, .a t len, [(t, .own e E l)]⟩ ⟨(t, .a t len) :: sl, (t, .own e E l) :: hp⟩ := by
  have hlen' := Nat.le_of_ble_eq_true hlen
  have hsz' := Nat.le_of_ble_eq_true hsz
  have hsE' := Nat.eq_of_beq_eq_true hsE
  subst hsE'
  have hbig : len * E.size ≤ 1000 * 1000 := Nat.mul_le_mul hlen' hsz'
  refine OpR.make rfl ht hf (parts_pre (s := ⟨sl, hp⟩) hr) (fun i hi => by simpa [SV.ids] using hi) fun F β s a w hs hp1 hn hpre => ?_
  obtain ⟨i, z, hi, hz, hi1, hi2, hz1, hz2⟩ := elem_info hE
  obtain ⟨h1, h2⟩ := decRows_spec E _ _ _ hd
  have h3 := parts_eval hr hpre
  have h4 := fillS_spec β _ _ _ _ hc
  rw [denL_vals, valsL_spec β hv, ← h1] at h4
  have h6 : (parts.toArray.map fun x => (x.1, a.eval x.2)).toList = r.map fun p => (p.1, p.2.den β) := by simp [h3]
  have hrun : (execOp a.eval ⟨some t, .buildSlice T len parts.toArray, ty, pos, af, g⟩).run P w = .ok (.value (.slice (some ⟨w.heap.size, 0, none⟩) len len)) (w.alloc (.cells (flat E l).toArray e)) := by
    have hif : ¬ len * E.size > 2 ^ 24 := by omega
    have h7 : ((Array.range (len * E.size)).map ((if len * E.size = 0 then #[] else z.cells)[· % (if len * E.size = 0 then (#[] : Array Value) else z.cells).size]!)) = (flat E (List.replicate len E.zero)).toArray := by
      by_cases h0 : len * E.size = 0
      · have hl0 : len = 0 := by
          rcases Nat.mul_eq_zero.1 h0 with h | h
          · exact h
          · have := E.pos; omega
        subst hl0
        simp [flat, h0]
      · rw [if_neg h0]
        apply Array.ext'
        exact made_flat E z.cells E.zero hz1 len
    by_cases h0 : len * E.size = 0
    · simp only [h0, if_true] at h7
      simp only [execOp, Instr.buildSlice, Sem.run_bind, run_underlying hT.h, Result.andThen_ok, run_sizeOf' hT.hn, h0, if_neg (show ¬ (0 : Nat) > 2 ^ 24 by decide), if_true, Sem.run_pure, h6, h7, h4, newRow]
      rfl
    · simp only [h0, if_false] at h7
      simp only [execOp, Instr.buildSlice, Sem.run_bind, run_underlying hT.h, Result.andThen_ok, run_sizeOf' hT.hn, if_neg hif, if_neg h0, Sem.run_pure, run_zero' hi hz, h6, h7, h4, newRow]
      rfl
  refine ⟨ownBI w.heap.size len, w.alloc (.cells (flat E l).toArray e), ?_, fr_alloc _ _, newOwn_ok ?_ (.inl hs.2.2.2.2.2.size), fun q hq => by rw [newOwn_bl hq]; exact Nat.le_refl _, by simp [Chunk.ids]⟩
  · rw [hrun]
    simp [SV.den, upd_same, ownBI, BI.dn]
  · rw [h2]
    have := World.ownsRow_lit (base := 0) (size := E.size) (e := e) w (flat E l).toArray len (Nat.zero_le _) (by unfold maxLen; omega) (by simp [flat_len, h2])
    simpa using this
end
end Go.Proofs.Ytiboffhdabeiiaa
